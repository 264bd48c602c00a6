/- Contracts of the program's functions and plain laws for the law PulseKnown, several texts in one (part 11); the program's functions as Lean functions came out of the kit's print. Conditions: each theorem's own. -/
import Derived.Test.YtiabenmgbikllaaQPulseKnownj
-- Q6
namespace Go.Proofs.Ytiabenmgbikllaa.M
set_option linter.unusedVariables false
open Go.RowKit Go.Proofs.YtiabenmgbikllaaW.PrintWords Go.Proofs.YtiabenmgbikllaaW.PrintLast Go.Proofs.YtiabenmgbikllaaW.PrintMore Go.Proofs.Ytiabenmgbikllaa.PAll
attribute [local go_sem] max2_int min2_int max_two min_two max_three min_three max_four min_four

/-- No number is greater than sixteen. -/
def In16 (ys : List Int) : Prop := ∀ x ∈ ys, -16 ≤ x ∧ x ≤ 16
theorem In16.rd {ys : List Int} (h : In16 ys) (k : Nat) (hk : k < ys.length) : -16 ≤ rd ys k ∧ rd ys k ≤ 16 := by
  rw [← rd_eq]
  have : ys.getD k 0 = ys[k] := by simp [hk]
  rw [this]
  exact h _ (List.getElem_mem _)
theorem In16.dec {ys : List Int} (h : In16 ys) (k : Nat) (hk : k < ys.length) : In16 (dec1 ys k) := by
  intro x hx
  have hr := h.rd k hk
  rcases List.mem_or_eq_of_mem_set hx with hx | rfl
  · exact h x hx
  · split <;> omega
theorem In16.inX {ys : List Int} (h : In16 ys) : InX ys ys.length := fun k hk => by have := h.rd k hk; omega
theorem run_lay (xs : List Int) (off : Nat) (ys : List Int) (h : off + ys.length ≤ xs.length) : run_ (lay xs off ys) off ys.length = ys := by
  unfold run_ lay
  have h1 : (xs.take off).length = off := by simp; omega
  rw [List.drop_left' h1, List.take_left' rfl]
theorem lay_run (xs : List Int) (off n : Nat) (h : off + n ≤ xs.length) : lay xs off (run_ xs off n) = xs := by
  unfold lay run_
  rw [show (List.take n (List.drop off xs)).length = n by simp; omega, ← List.drop_drop, List.take_append_drop, List.take_append_drop]
theorem Blk.rb {w : World} {b : Nat} {xs : List Int} (h : Blk w b xs) (off n : Nat) (hn : off + n ≤ xs.length) : Rb w b off (run_ xs off n) := fun j hj => by
  rw [run_length xs off n hn] at hj
  rw [h.cell (off + j) (by omega), run_rd xs off n j hn hj]
set_option maxHeartbeats 1000000 in
set_option maxRecDepth 100000 in
theorem thin_calls (w : World) (b off n cap : Nat) (xs ys : List Int) (fewest : Int) (K : Nat) (hys : ys = run_ xs off n) (hK : K = (cntL ys - fewest).toNat) (hb : Blk w b xs) (hn : off + n ≤ xs.length) (hc : n ≤ cap) (n1 : 1 ≤ n) (n16 : n ≤ 16) (f0 : 0 ≤ fewest) (f1 : fewest ≤ 1000) (h16 : In16 ys) :
    Calls Try.prog 94 #[.slice (some ⟨b, off, none⟩) n cap, .int .i64 fewest] w fun r w' => r = .returned (.tuple #[]) ∧ Blk w' b (lay xs off (thinN ys K)) ∧ Chg w w' (One b) := by
  have hyl : ys.length = n := by rw [hys]; exact run_length xs off n hn
  have hbw := hb.lt
  obtain ⟨t, ht⟩ : ∃ t, t = w.heap.size := ⟨_, rfl⟩
  obtain ⟨W, hW⟩ : ∃ W, W = w.alloc (.cells #[.slice (some ⟨b, off, none⟩) n cap, .slice none 0 0] 131) := ⟨_, rfl⟩
  have htb : t ≠ b := by omega
  have hTW : TopsAt W t b off n cap xs [] (.slice none 0 0) := by
    rw [hW, ht]
    exact ⟨heap_alloc_new w _, own_nil _ _ _ _, hb.chg ((Chg.refl w No).alloc _) (fun h => h), hn, hc, by omega⟩
  have HS : Aside0 (TopsAt W t b off n cap xs (pushL (keyF ys) 0) (.slice none 0 0) ∧ Chg w W No ∧ Ge w.heap.size (blkOf (.slice none 0 0))) := ⟨hTW, by rw [hW]; exact (Chg.refl w No).alloc _, fun k hk => by cases hk⟩
  have HY := Aside0.mk (And.intro hys (And.intro hyl (And.intro h16 (And.intro hK (And.intro ht hW)))))
  have hX : Aside0 (InX (run_ xs off n) n) := ⟨by rw [← hys, ← hyl]; exact h16.inX⟩
  have htw : w.heap.size ≤ t := by omega
  clear hys hyl h16 hK hb hTW
  go_enter Try.func94, Try.ntmps94
  go_wp2_with fail
  rw [← hW, ← ht]
  clear hW ht
  go_loopg [13] n (fun k u13 wr => ∃ (i : Nat) (av : Value), u13 = .int .i64 (i : Int) ∧ k + i = n ∧ Aside0 (TopsAt wr t b off n cap xs (pushL (keyF ys) i) av ∧ Chg w wr No ∧ Ge w.heap.size (blkOf av)))
  case atStart => exact ⟨0, _, rfl, rfl, HS⟩
  case round =>
    clear HS
    obtain ⟨i, av, rfl, hk, HR⟩ := hrel
    by_cases hi : i < n
    · have P := push_ok (keyF ys) i
      have HP := Aside0.mk P
      clear P
      go_wp2_with fail
      refine (hpush_calls wr t b off n cap xs (pushL (keyF ys) i) av HR.out.1 (i : Int) (by omega) (by omega) (HP.out.1.inR (by omega)) hX.out (by omega) (by rw [HP.out.1.len]; omega)).mono ?_
      rintro r w1 ⟨rfl, av1, h1, c1, x1⟩
      have HT : Aside0 (TopsAt w1 t b off n cap xs (pushL (keyF ys) (i + 1)) av1 ∧ Chg w w1 No ∧ Ge w.heap.size (blkOf av1)) := by
        refine ⟨?_, ?_, ?_⟩
        · rw [← HY.out.1, HP.out.1.len] at h1; exact h1
        · exact HR.out.2.1.trans c1 (fun c hc => .inr (by rcases hc with hc | hc; omega; exact HR.out.2.2 c hc))
        · exact Ge.ext HR.out.2.2 HR.out.2.1.size x1
      clear h1 c1 x1
      go_wp2_with fail
      go_roundg (gk - 1)
      case measure => omega
      case rel => exact ⟨i + 1, av1, by go_num, by omega, HT⟩
    · have hin : n = i := by omega
      have HR2 : Aside0 (TopsAt wr t b off n cap (lay xs off (thinN ys 0)) (pushL (keyF ys) n) av ∧ Each (pushL (keyF ys) n) n ∧ Heap (keyF (thinN ys 0)) (pushL (keyF ys) n) n ∧ Chg w wr (One b) ∧ In16 (thinN ys 0)) := by
        obtain ⟨a1, a2, a3⟩ := HR.out
        obtain ⟨p1, p2⟩ := push_ok (keyF ys) n
        rw [← hin] at a1
        refine ⟨?_, p1, p2, a2.mono (fun _ h => False.elim h), HY.out.2.2.1⟩
        show TopsAt wr t b off n cap (lay xs off ys) _ av
        have e : lay xs off ys = xs := by rw [HY.out.1, lay_run xs off n hn]
        rw [e]
        exact a1
      have HGe := Aside0.mk HR.out.2.2
      have hrb : Rb wr b off ys := by rw [HY.out.1]; exact HR.out.1.row.rb off n hn
      have hav := HR.out.1.atne
      have HRB := Aside0.mk (And.intro hrb hav)
      subst hin
      clear HR hrb hav
      go_wp2_with fail
      have HC := count_calls wr b off cap ys HRB.out.1 (by rw [HY.out.2.1]; exact hc) (by rw [HY.out.2.1]; omega)
      rw [HY.out.2.1] at HC
      with_reducible refine HC.mono ?_
      clear HC
      rintro r w2 ⟨rfl, c2⟩
      have HQ : Aside0 (TopsAt w2 t b off n cap (lay xs off (thinN ys 0)) (pushL (keyF ys) n) av ∧ Each (pushL (keyF ys) n) n ∧ Heap (keyF (thinN ys 0)) (pushL (keyF ys) n) n ∧ Chg w w2 (One b) ∧ In16 (thinN ys 0)) :=
        ⟨HR2.out.1.chg c2 (fun h => h) (fun h => h) (fun _ _ h => h), HR2.out.2.1, HR2.out.2.2.1, HR2.out.2.2.2.1.trans c2 (fun _ h => False.elim h), HR2.out.2.2.2.2⟩
      obtain ⟨c0, hc0⟩ : ∃ c0, c0 = cntL ys := ⟨_, rfl⟩
      have hcr := cntL_range ys
      have hyl := HY.out.2.1
      have hKc := HY.out.2.2.2.1
      rw [← hc0] at hcr hKc ⊢
      obtain ⟨hcr0, hcr1⟩ := hcr
      have hc1 : c0 ≤ 512 := by omega
      have HK := Aside0.mk hKc
      have HNE : Aside0 (¬ blkOf av t ∧ ¬ blkOf av b) := ⟨HRB.out.2⟩
      clear c2 hc0 HRB HR2 hKc hyl hcr1
      go_wp2_with fail
      go_loopg [6] K (fun k u6 wr => ∃ (i : Nat) (v : Int) (l : List Int), u6 = .int .i64 v ∧ k + i = K ∧ Aside0 (v = c0 - i) ∧ -1 ≤ v ∧ v ≤ 512 ∧ Aside0 (TopsAt wr t b off n cap (lay xs off (thinN ys i)) l av ∧ Each l n ∧ Heap (keyF (thinN ys i)) l n ∧ Chg w wr (One b) ∧ In16 (thinN ys i)))
      case atStart => exact ⟨0, c0, _, rfl, rfl, ⟨by omega⟩, by omega, hc1, HQ⟩
      case round =>
        clear HQ
        obtain ⟨i, v, l, rfl, hk, HV, hv0, hv1, HR⟩ := hrel
        by_cases hi : i < K
        · have hfv : fewest < v := by have := HV.out; have := HK.out; omega
          have hzl : (thinN ys i).length = n := by rw [thinN_length]; exact HY.out.2.1
          obtain ⟨zs, hzs⟩ : ∃ zs, zs = thinN ys i := ⟨_, rfl⟩
          have hnext : thinN ys (i + 1) = dec1 zs (topN zs n) := by rw [hzs, ← HY.out.2.1]; rfl
          rw [← hzs] at HR hzl
          have hr0 := HR.out.2.1.rng 0 (by omega)
          obtain ⟨kk, hkk⟩ : ∃ kk : Nat, rd l (0 : Nat) = kk := ⟨(rd l (0 : Nat)).toNat, by omega⟩
          have hkn : kk < n := by omega
          have hfirst := heap_first zs l n n1 (by omega) HR.out.2.1 HR.out.2.2.1
          have htop : topN zs n = kk := by rw [hkk] at hfirst; omega
          have hfix := heap_fixed zs l n n1 hzl HR.out.2.1 HR.out.2.2.1 kk hkk
          obtain ⟨ga, ca, hav⟩ := own_pos HR.out.1.own (by rw [HR.out.2.1.len]; omega)
          have ho := HR.out.1.own
          rw [hav] at ho
          have q00 := (own_at ho (0 : Int) (by omega) (by rw [HR.out.2.1.len]; omega)).1
          rw [show rd l (0 : Int) = (kk : Int) from hkk] at q00
          have q0 : wr.cell? ⟨ga, 0, none⟩ = some (.int .i64 (kk : Int)) := q00
          clear q00
          have q1 : wr.cell? ⟨t, 1, none⟩ = some (.slice (some ⟨ga, 0, none⟩) n ca) := by
            have := blk_cell HR.out.1.blk 1
            rw [hav, HR.out.2.1.len] at this
            exact this
          have hca : n ≤ ca := by have := own_le ho; rw [HR.out.2.1.len] at this; exact this
          have hxl : Aside0 ((lay xs off zs).length = xs.length ∧ off + zs.length ≤ xs.length) := ⟨by rw [lay_length _ _ _ (by omega)], by omega⟩
          have q2 := HR.out.1.row.cell (off + kk) (by rw [hxl.out.1]; omega)
          rw [lay_rd xs off zs kk (by omega) hxl.out.2] at q2
          have z2 := HR.out.1.row.frozen (off + kk)
          obtain ⟨x, hx⟩ : ∃ x, x = rd zs kk := ⟨_, rfl⟩
          have hx16 := HR.out.2.2.2.2.rd kk (by omega)
          rw [← hx] at q2 hx16
          have HZ := Aside0.mk (And.intro hnext (And.intro htop (And.intro hfix (And.intro hzl (And.intro hx hzs)))))
          have HW : Aside0 (∀ y, y = (if 0 < x then x - 1 else x + 1) → TopsAt (wr.setCell ⟨b, off + kk, none⟩ (.int .i64 y)) t b off n cap (lay xs off (dec1 zs kk)) l av ∧ Chg w (wr.setCell ⟨b, off + kk, none⟩ (.int .i64 y)) (One b)) := ⟨fun y hy => by
            obtain ⟨a1, a2, a3, a4, a5⟩ := HR.out
            have kc : Chg wr (wr.setCell ⟨b, off + kk, none⟩ (.int .i64 y)) (One b) := (Chg.refl wr (One b)).setCell (p := ⟨b, off + kk, none⟩) (.inl rfl) _
            refine ⟨⟨kc.blk a1.blk (fun hh => htb hh), kc.own a1.own (fun c hc hh => HNE.out.2 (by have hh' : c = b := hh; rw [← hh']; exact hc)), ?_, by rw [lay_length _ _ _ (by rw [dec1_length]; exact hxl.out.2)]; exact hn, a1.hc, a1.ne⟩, a4.trans kc (Ext.refl _ _)⟩
            have e9 : lay xs off (dec1 zs kk) = (lay xs off zs).set (off + kk) y := by
              rw [lay_set xs off zs kk y (by omega) hxl.out.2, hy, hx]; rfl
            rw [e9]
            exact a1.row.set (off + kk) y⟩
          have hrun : run_ (lay xs off (dec1 zs kk)) off n = dec1 zs kk := by
            have := run_lay xs off (dec1 zs kk) (by rw [dec1_length]; exact hxl.out.2)
            rw [dec1_length, hzl] at this
            exact this
          have HRun : Aside0 (run_ (lay xs off (dec1 zs kk)) off n = dec1 zs kk ∧ InX (run_ (lay xs off (dec1 zs kk)) off n) n ∧ In16 (dec1 zs kk)) := by
            have h8 := HR.out.2.2.2.2.dec kk (by omega)
            refine ⟨hrun, ?_, h8⟩
            rw [hrun]
            have := h8.inX
            rw [dec1_length, hzl] at this
            exact this
          have HE := Aside0.mk HR.out.2.1
          clear HR hnext htop hfix hzl hx hzs hrun hfirst hkk hr0 hav ho
          by_cases hp : 0 < x
          case' pos =>
            have HW2 := Aside0.mk (HW.out (x - 1) (by rw [if_pos hp]))
            clear HW
            go_wp2_with fail
            generalize wr.setCell ⟨b, off + kk, none⟩ (.int .i64 (x - 1)) = w3 at HW2 ⊢
          case' neg =>
            have HW2 := Aside0.mk (HW.out (x + 1) (by rw [if_neg hp]))
            have hpb : decide (0 < x) = false := by simpa using hp
            clear HW
            go_wp2_with fail
            generalize wr.setCell ⟨b, off + kk, none⟩ (.int .i64 (x + 1)) = w3 at HW2 ⊢
          all_goals
            refine (fix_calls w3 t b off n cap _ l av HW2.out.1 n HE.out.len.symm (by omega) HE.out (Nat.le_refl _) HRun.out.2.1 (by omega)).mono ?_
            rintro r w4 ⟨rfl, h4, c4⟩
            have HT : Aside0 (TopsAt w4 t b off n cap (lay xs off (thinN ys (i + 1))) (downL (keyF (dec1 zs kk)) n n l 0).1 av ∧ Each (downL (keyF (dec1 zs kk)) n n l 0).1 n ∧ Heap (keyF (thinN ys (i + 1))) (downL (keyF (dec1 zs kk)) n n l 0).1 n ∧ Chg w w4 (One b) ∧ In16 (thinN ys (i + 1))) := by
              rw [HRun.out.1] at h4
              rw [HZ.out.1, HZ.out.2.1]
              exact ⟨h4, HZ.out.2.2.1.1, HZ.out.2.2.1.2, HW2.out.2.trans c4 (fun c hc => .inr (HGe.out c hc)), HRun.out.2.2⟩
            clear h4 c4 HW2 q0 q1 q2 z2
            go_wp2_with fail
            go_roundg (gk - 1)
            case measure => omega
            case rel => exact ⟨i + 1, v - 1, _, rfl, by omega, ⟨by have := HV.out; omega⟩, by omega, by omega, HT⟩
        · have hfv : v ≤ fewest := by have := HV.out; have := HK.out; omega
          have hiK : i = K := by omega
          have HF : Aside0 (Blk wr b (lay xs off (thinN ys K)) ∧ Chg w wr (One b)) := by
            rw [← hiK]; exact ⟨HR.out.1.row, HR.out.2.2.2.1⟩
          clear HR
          go_wp2_with fail
          go_returns
          exact ⟨rfl, HF.out⟩
end Go.Proofs.Ytiabenmgbikllaa.M

-- Q7
namespace Go.Proofs.Ytiabenmgbikllaa.M
set_option linter.unusedVariables false
open Go.RowKit Go.Proofs.YtiabenmgbikllaaW.PrintWords Go.Proofs.YtiabenmgbikllaaW.PrintLast Go.Proofs.YtiabenmgbikllaaW.PrintMore Go.Proofs.Ytiabenmgbikllaa.PAll
attribute [local go_sem] max2_int min2_int max_two min_two max_three min_three max_four min_four

def clL (l : List Int) : List Int := l.map fun v => clampI v (-16) 16
/-- The block i of xs, its pulses taken away. -/
def thinAt (f : Int) (xs : List Int) (i : Nat) : List Int :=
  lay xs (16 * i) (thinN (run_ xs (16 * i) (min 16 (xs.length - 16 * i))) (cntL (run_ xs (16 * i) (min 16 (xs.length - 16 * i))) - f).toNat)
def fewN (f : Int) (xs : List Int) : Nat → List Int
  | 0 => xs
  | i + 1 => thinAt f (fewN f xs i) i
def fewerL (l : List Int) (most : Int) : List Int := fewN (clampI most 0 16) (clL l) ((l.length + 15) / 16)
theorem clL_length (l : List Int) : (clL l).length = l.length := by simp [clL]
theorem clL_in (l : List Int) : In16 (clL l) := fun x hx => by
  obtain ⟨v, _, rfl⟩ := List.mem_map.1 hx
  exact clampI_range v (-16) 16 (by omega)
theorem thinAt_length (f : Int) (xs : List Int) (i : Nat) (h : 16 * i ≤ xs.length) : (thinAt f xs i).length = xs.length := by
  unfold thinAt
  rw [lay_length]
  rw [thinN_length, run_length _ _ _ (by omega)]
  omega
theorem fewN_length (f : Int) (xs : List Int) : ∀ i, 16 * i ≤ xs.length + 15 → (fewN f xs i).length = xs.length
  | 0, _ => rfl
  | i + 1, h => by
    have ih := fewN_length f xs i (by omega)
    show (thinAt f (fewN f xs i) i).length = _
    rw [thinAt_length f _ i (by omega), ih]
theorem thin_in (ys : List Int) (h : In16 ys) (h1 : 1 ≤ ys.length) (h2 : ys.length ≤ 1000) : ∀ i, In16 (thinN ys i)
  | 0 => h
  | i + 1 => by
    have ih := thin_in ys h h1 h2 i
    have ht := (topN_max (thinN ys i) ys.length h1 h2).1
    exact ih.dec _ (by rw [thinN_length]; exact ht)
theorem In16.run {xs : List Int} (h : In16 xs) (off n : Nat) : In16 (run_ xs off n) := fun x hx => h x (List.mem_of_mem_drop (List.mem_of_mem_take hx))
theorem In16.lay {xs ys : List Int} (h : In16 xs) (k : In16 ys) (off : Nat) : In16 (lay xs off ys) := fun x hx => by
  unfold M.lay at hx
  rcases List.mem_append.1 hx with hx | hx
  · exact h x (List.mem_of_mem_take hx)
  · rcases List.mem_append.1 hx with hx | hx
    · exact k x hx
    · exact h x (List.mem_of_mem_drop hx)
theorem fewN_in (f : Int) (xs : List Int) (h : In16 xs) : ∀ i, 16 * i ≤ xs.length + 15 → In16 (fewN f xs i)
  | 0, _ => h
  | i + 1, hi => by
    have ih := fewN_in f xs h i (by omega)
    have hl := fewN_length f xs i (by omega)
    show In16 (thinAt f (fewN f xs i) i)
    unfold thinAt
    have hr : (run_ (fewN f xs i) (16 * i) (min 16 ((fewN f xs i).length - 16 * i))).length = min 16 ((fewN f xs i).length - 16 * i) := run_length _ _ _ (by omega)
    exact ih.lay (thin_in _ (ih.run _ _) (by omega) (by omega) _) _
set_option maxHeartbeats 600000 in
set_option maxRecDepth 100000 in
theorem fewer_calls (w : World) (s : Value) (l : List Int) (most : Int) (h : Rd w .i64 s l) (hl : l.length ≤ 480) :
    Calls Try.prog 42 #[s, .int .i64 most] w fun r w' => ∃ L, r = .returned (.slice (some ⟨L, 0, none⟩) l.length l.length) ∧ Blk w' L (fewerL l most) ∧ Chg w w' No ∧ w.heap.size ≤ L := by
  obtain ⟨A, c, rfl, hc, hr⟩ := h.to
  obtain ⟨n, hn⟩ : ∃ n, n = l.length := ⟨_, rfl⟩
  have HL := Aside0.mk (And.intro hn hr)
  rw [← hn] at hl hc ⊢
  clear h hr hn
  have hmk := print_make (P := Try.prog) 45 2 .i64 8 Try.underlying45 info2 (by omega) n (by omega)
  obtain ⟨F, hF⟩ : ∃ F, F = clampI most 0 16 := ⟨_, rfl⟩
  have HF := Aside0.mk hF
  have hFr : 0 ≤ F ∧ F ≤ 16 := by rw [hF]; exact clampI_range most 0 16 (by omega)
  obtain ⟨hF0, hF1⟩ := hFr
  clear hF
  go_enter Try.func42, Try.ntmps42
  go_upto_region 3 with (fail)
  go_cut [1] (fun s1 wx => s1 = .int .i64 F ∧ wx = w)
  case first =>
    go_wp2_with fail
    all_goals
      go_meet
      refine ⟨?_, rfl⟩
      rw [HF.out]
      unfold clampI
      congr 1
      split <;> (try split) <;> omega
  case rest =>
    obtain ⟨rfl, rfl⟩ := hcut
    obtain ⟨W, hW⟩ : ∃ W, W = wc.alloc (.cells (madeCells #[.int .i64 0] n) 2) := ⟨_, rfl⟩
    obtain ⟨L, hL⟩ : ∃ L, L = wc.heap.size := ⟨_, rfl⟩
    have HS : Aside0 (Blk W L ((clL l).take 0 ++ (List.replicate n 0).drop 0) ∧ Chg wc W No) := ⟨by rw [hW, hL]; simp only [List.take_zero, List.nil_append, List.drop_zero]; exact blk_made wc n, by rw [hW]; exact (Chg.refl wc No).alloc _⟩
    have hLw : wc.heap.size ≤ L := by omega
    have HWL := Aside0.mk (And.intro hW hL)
    clear hW hL
    go_wp2_with fail
    rw [← HWL.out.1, ← HWL.out.2]
    clear hmk
    go_loopg [20] n (fun k u20 wr => ∃ i : Nat, u20 = .int .i64 (i : Int) ∧ k + i = n ∧ Aside0 (Blk wr L ((clL l).take i ++ (List.replicate n 0).drop i) ∧ Chg wc wr No))
    case atStart => exact ⟨0, rfl, rfl, HS⟩
    case round =>
      clear HS
      obtain ⟨i, rfl, hk, HR⟩ := hrel
      by_cases hi : i < n
      · have hlt : i < l.length := by have := HL.out.1; omega
        obtain ⟨ad, hA, hx⟩ := HL.out.2.at_ (i : Int) (by omega) (by omega)
        simp only [Int.toNat_natCast] at hx
        have hx2 : wr.cell? (ad.add i) = some (.int .i64 (rd l i)) := by
          have hb := HR.out.2.block (ad.add i).block (World.block_lt_of_cell? wc _ hx) (fun h => h)
          simpa [World.cell?, hb] using hx
        obtain ⟨x, hxx⟩ : ∃ x, x = rd l i := ⟨_, rfl⟩
        rw [← hxx] at hx2
        have hAl : ((clL l).take i).length = i := by rw [List.length_take, clL_length]; omega
        have hll : ((clL l).take i ++ (List.replicate n (0 : Int)).drop i).length = n := by rw [List.length_append, hAl]; simp; omega
        have c0 := HR.out.1.cell i (by rw [hll]; exact hi)
        have z0 := HR.out.1.frozen i
        have hms := mid_set ((clL l).take i) (List.replicate n 0) (clampI x (-16) 16) (by rw [hAl]; simpa using hi)
        rw [hAl] at hms
        have hcl : rd (clL l) i = clampI x (-16) 16 := by
          rw [hxx, ← rd_eq, ← rd_eq]
          simp [clL, List.getD, hlt]
        have hts := take_snoc_rd (clL l) i (by rw [clL_length]; exact hlt)
        rw [hcl] at hts
        have HT : Aside0 (∀ W', Chg wr W' No → Blk W' L ((clL l).take i ++ (List.replicate n 0).drop i) → Blk (W'.setCell ⟨L, i, none⟩ (.int .i64 (clampI x (-16) 16))) L ((clL l).take (i + 1) ++ (List.replicate n 0).drop (i + 1)) ∧ Chg wc (W'.setCell ⟨L, i, none⟩ (.int .i64 (clampI x (-16) 16))) No) := ⟨fun W' k' b' => by
          rw [hts, ← hms]
          exact ⟨b'.set i _, (HR.out.2.trans k' (Ext.refl _ _)).setCell (p := ⟨L, i, none⟩) (.inr hLw) _⟩⟩
        subst hA
        clear hx hxx hAl hll hms hcl hts
        go_wp2_with fail
        with_reducible refine (clamp_calls wr x (-16) 16).mono ?_
        rintro r w1 ⟨rfl, m, rfl⟩
        have HT2 := Aside0.mk (HT.out (wr.drewN m) ((Chg.refl wr No).drewN m) (HR.out.1.chg ((Chg.refl wr No).drewN m) (fun h => h)))
        clear HT
        go_wp2_with fail
        go_roundg (gk - 1)
        case measure => omega
        case rel => exact ⟨i + 1, by go_num, by omega, HT2⟩
      · have hin : n = i := by omega
        have HS : Aside0 (Blk wr L (fewN F (clL l) 0) ∧ Chg wc wr No) := ⟨by
          have := HR.out.1
          rw [← hin, List.take_of_length_le (by rw [clL_length]; have := HL.out.1; omega), List.drop_eq_nil_of_le (by simp), List.append_nil] at this
          exact this, HR.out.2⟩
        subst hin
        clear HR
        obtain ⟨NB, hNB⟩ : ∃ NB, NB = (n + 15) / 16 := ⟨_, rfl⟩
        have HNB := Aside0.mk hNB
        have hNB1 : 16 * NB ≤ n + 15 := by omega
        have hNB2 : n ≤ 16 * NB := by omega
        clear hNB
        go_wp2_with fail
        go_loopg [8] NB (fun k u8 wr => ∃ i a : Nat, u8 = .int .i64 (a : Int) ∧ k + i = NB ∧ Aside0 (a = 16 * i ∧ Blk wr L (fewN F (clL l) i) ∧ Chg wc wr No))
        case atStart => exact ⟨0, 0, rfl, rfl, ⟨rfl, HS.out⟩⟩
        case round =>
          clear HS
          obtain ⟨i, a, rfl, hk, HR⟩ := hrel
          by_cases hi : i < NB
          · have han : a < n := by have := HR.out.1; omega
            obtain ⟨i2, hi2, hz⟩ := Option.map_eq_some_iff.1 info2
            simp only [Prod.mk.injEq] at hz
            have hfl : (fewN F (clL l) i).length = n := by rw [fewN_length F _ i (by rw [clL_length]; have := HL.out.1; omega), clL_length]; exact HL.out.1.symm
            have hfi := fewN_in F (clL l) (clL_in l) i (by rw [clL_length]; have := HL.out.1; omega)
            have HFI := Aside0.mk (And.intro hfl hfi)
            clear hfl hfi
            by_cases h16 : a + 16 ≤ n
            case' pos =>
              have hmid : ∀ W : World, (Instr.slice 45 (.slice (some ⟨L, 0, none⟩) n n) (some (.int .i64 (a : Int))) (some (.int .i64 ((a : Int) + 16))) none).run Try.prog W = .ok (.slice (some ⟨L, a, none⟩) 16 (n - a)) W := by
                intro W
                have := slice_mid 45 2 Try.underlying45 hi2 hz.2.1 L n n (a : Int) ((a : Int) + 16) (by omega) (by omega) (by omega) (by omega) W (by omega)
                rw [this]
                simp
                omega
              have HM : Aside0 (min 16 (n - a) = 16) := ⟨by omega⟩
              clear hi2 hz
              go_wp2_with fail
            case' neg =>
              have hmid : ∀ W : World, (Instr.slice 45 (.slice (some ⟨L, 0, none⟩) n n) (some (.int .i64 (a : Int))) (some (.int .i64 (n : Int))) none).run Try.prog W = .ok (.slice (some ⟨L, a, none⟩) (n - a) (n - a)) W := by
                intro W
                have := slice_mid 45 2 Try.underlying45 hi2 hz.2.1 L n n (a : Int) (n : Int) (by omega) (by omega) (by omega) (by omega) W (by omega)
                rw [this]
                simp
              have HM : Aside0 (min 16 (n - a) = n - a) := ⟨by omega⟩
              clear hi2 hz
              go_wp2_with fail
            all_goals
              refine (thin_calls wr L a _ _ (fewN F (clL l) i) _ F _ rfl rfl HR.out.2.1 (by rw [HFI.out.1]; omega) (by omega) (by omega) (by omega) hF0 (by omega) (HFI.out.2.run _ _)).mono ?_
              rintro r w1 ⟨rfl, b1, c1⟩
              have HT : Aside0 (a + 16 = 16 * (i + 1) ∧ Blk w1 L (fewN F (clL l) (i + 1)) ∧ Chg wc w1 No) := by
                refine ⟨by have := HR.out.1; omega, ?_, HR.out.2.2.trans c1 (Ext.new (fun k hk => by rw [show k = L from hk]; exact hLw))⟩
                show Blk w1 L (thinAt F (fewN F (clL l) i) i)
                unfold thinAt
                rw [HFI.out.1, ← HR.out.1, HM.out]
                exact b1
              clear b1 c1 hmid
              go_wp2_with fail
              go_roundg (gk - 1)
              case measure => omega
              case rel => exact ⟨i + 1, a + 16, by go_num, by omega, HT⟩
          · have hin : i = NB := by omega
            have HFin : Aside0 (Blk wr L (fewerL l most) ∧ Chg wc wr No) := ⟨by
              have := HR.out.2.1
              rw [hin, HNB.out] at this
              unfold fewerL
              rw [← HF.out, ← HL.out.1]
              exact this, HR.out.2.2⟩
            have han : n ≤ a := by have := HR.out.1; omega
            clear HR
            go_wp2_with fail
            go_returns
            exact ⟨L, rfl, HFin.out.1, HFin.out.2, hLw⟩
end Go.Proofs.Ytiabenmgbikllaa.M

-- Q8
namespace Go.Proofs.Ytiabenmgbikllaa.M
set_option linter.unusedVariables false
open Go.RowKit Go.Proofs.YtiabenmgbikllaaW.PrintWords Go.Proofs.YtiabenmgbikllaaW.PrintLast Go.Proofs.YtiabenmgbikllaaW.PrintMore Go.Proofs.Ytiabenmgbikllaa.PAll
attribute [local go_sem] max2_int min2_int max_two min_two max_three min_three max_four min_four

theorem same_l (l0 l1 : List Int) (hl : l0.length = l1.length) (hn : l0.length ≤ 1000000) (m : Nat) : ∀ (k i : Nat), i + m = l0.length → m < k → madrigallaw9_same.l0 k l0 l1 (i : Int) = some (decide (l0.drop i = l1.drop i)) := by
  induction m with
  | zero =>
    intro k i hi hk
    obtain ⟨k, rfl⟩ : ∃ m, k = m + 1 := ⟨k - 1, by omega⟩
    simp only [madrigallaw9_same.l0]
    rw [if_neg (by omega), List.drop_eq_nil_of_le (by omega), List.drop_eq_nil_of_le (by omega)]
    rfl
  | succ m ih =>
    intro k i hi hk
    obtain ⟨k, rfl⟩ : ∃ m, k = m + 1 := ⟨k - 1, by omega⟩
    have h0 : i < l0.length := by omega
    have h1 : i < l1.length := by omega
    have e0 : l0[i] = rd l0 i := by rw [← rd_eq]; simp [List.getD, h0]
    have e1 : l1[i] = rd l1 i := by rw [← rd_eq]; simp [List.getD, h1]
    simp only [madrigallaw9_same.l0]
    rw [if_pos (by omega), if_pos (by omega), if_pos (by omega), List.drop_eq_getElem_cons h0, List.drop_eq_getElem_cons h1, e0, e1]
    by_cases hc : rd l0 i = rd l1 i
    · rw [if_pos hc, show wrap64 ((i : Int) + 1) = ((i + 1 : Nat) : Int) from by unfold wrap64; omega, ih k (i + 1) (by omega) (by omega), hc]
      simp
    · rw [if_neg hc]
      simp [hc]
theorem same_f (l0 l1 : List Int) (hn : l0.length ≤ 1000000) (k : Nat) (hk : l0.length < k) : madrigallaw9_same.f k l0 l1 = some (decide (l0 = l1)) := by
  unfold madrigallaw9_same.f
  by_cases hl : (l0.length : Int) = (l1.length : Int)
  · rw [if_pos hl]
    have := same_l l0 l1 (by omega) hn l0.length k 0 (by omega) hk
    simpa using this
  · rw [if_neg hl]
    have : l0 ≠ l1 := fun hh => hl (by rw [hh])
    simp [this]
theorem same_calls (w : World) (s0 s1 : Value) (l0 l1 : List Int) (h0 : Rd w .i64 s0 l0) (h1 : Rd w .i64 s1 l1) (hn : l0.length ≤ 1000000) :
    Calls Try.prog 45 #[s0, s1] w fun r w' => r = .returned (.bool (decide (l0 = l1))) ∧ ∃ n, w' = w.drewN n := by
  obtain ⟨A0, c0, rfl, hc0, hr0⟩ := h0.to
  obtain ⟨A1, c1, rfl, hc1, hr1⟩ := h1.to
  exact (madrigallaw9_same.calls (l0.length + 1) A0 c0 l0 A1 c1 l1 _ w (Kd.C_of_reads (d := 0) (readsInt_of.1 hr0)) hc0 (Kd.C_of_reads (d := 0) (readsInt_of.1 hr1)) hc1 (same_f l0 l1 hn _ (by omega))).mono
    fun r w' ⟨h1, h2⟩ => ⟨h1, h2.out⟩
theorem Blk.rd_ {w : World} {b : Nat} {xs : List Int} (h : Blk w b xs) (hn : xs.length ≤ 1000000) : Rd w .i64 (.slice (some ⟨b, 0, none⟩) xs.length xs.length) xs :=
  .inr ⟨_, _, rfl, Nat.le_refl _, by
    have := h.reads 0 xs.length (by omega) (by omega)
    rw [List.drop_zero, List.take_of_length_le (Nat.le_refl _)] at this
    exact this⟩
theorem Blk.rdn {w : World} {b : Nat} {xs : List Int} (h : Blk w b xs) (n : Nat) (hn : xs.length = n) (h1 : n ≤ 1000000) : Rd w .i64 (.slice (some ⟨b, 0, none⟩) n n) xs := by
  subst hn
  exact h.rd_ h1

def l9 : List Int := [0, 0, 0, -2, 0, 0, 0, 0, 0, 1, 0, 0, 0, 0, 0, 0]
theorem l9_good : goodL l9 = true := by decide +kernel
theorem l9_at : GoodAt l9 1 := goodL_at l9 l9_good
def e9 : E := pulsesE E.new l9 1
theorem e9_good : EGood e9 500 := pulses_good E.new 0 EGood.new l9 1 l9_at 1 (by omega) (by omega)
theorem e9_tell : e9.tell ≤ 8 * ((20 : Nat) : Int) := by decide +kernel
def x9 : List Int := e9.done 20
theorem x9_bytes : Bytes x9 := (done_code e9 500 e9_good 20 e9_tell).2.1
theorem x9_len : x9.length = 20 := (done_code e9 500 e9_good 20 e9_tell).2.2
theorem x9_reads : (pulsesR 1 (D.new x9)).1 = l9 := by decide +kernel
theorem few9 : fewerL [3, -2, 1] 4 = [2, -1, 1] := by decide +kernel
end Go.Proofs.Ytiabenmgbikllaa.M

-- Q9
namespace Go.Proofs.Ytiabenmgbikllaa.M
set_option linter.unusedVariables false
open Go.RowKit Go.Proofs.YtiabenmgbikllaaW.PrintWords Go.Proofs.YtiabenmgbikllaaW.PrintLast Go.Proofs.YtiabenmgbikllaaW.PrintMore Go.Proofs.Ytiabenmgbikllaa.PAll
attribute [local go_sem] max2_int min2_int max_two min_two max_three min_three max_four min_four

set_option maxHeartbeats 1000000 in
set_option maxRecDepth 100000 in
theorem awake9_calls (w : World) : Calls Try.prog 36 #[] w fun r w' => r = .returned (.bool true) ∧ Chg w w' No := by
  have hmk : ∀ W : World, (Instr.makeSlice 45 (.int .i64 16) (.int .i64 16)).run Try.prog W = .ok (.slice (some ⟨W.heap.size, 0, none⟩) 16 16) (W.alloc (.cells (madeCells #[.int .i64 0] 16) 2)) := print_make (P := Try.prog) 45 2 .i64 8 Try.underlying45 info2 (by omega) 16 (by omega)
  obtain ⟨W1, hW⟩ : ∃ W1, W1 = w.alloc (.cells (((madeCells #[.int .i64 0] 16).setIfInBounds 3 (.int .i64 (-2))).setIfInBounds 9 (.int .i64 1)) 2) := ⟨_, rfl⟩
  obtain ⟨L, hL⟩ : ∃ L, L = w.heap.size := ⟨_, rfl⟩
  have HB : Aside0 (Blk W1 L l9 ∧ Chg w W1 No) := by
    refine ⟨?_, by rw [hW]; exact (Chg.refl w No).alloc _⟩
    have h := heap_alloc_new w (.cells (((madeCells #[.int .i64 0] 16).setIfInBounds 3 (.int .i64 (-2))).setIfInBounds 9 (.int .i64 1)) 2)
    unfold Blk
    rw [hW, hL, h]
    have e : ((madeCells #[.int .i64 0] 16).setIfInBounds 3 (.int .i64 (-2))).setIfInBounds 9 (.int .i64 1) = (nums .i64 l9).toArray := by
      apply Array.toList_inj.1
      rw [Array.toList_setIfInBounds, Array.toList_setIfInBounds, toList_madeCells_one]
      rfl
    rw [e]
  have HW := Aside0.mk (And.intro hW hL)
  have hLw : w.heap.size ≤ L := by omega
  have m3 : (madeCells #[.int .i64 0] 16)[3]? = some (.int .i64 0) := by rw [← Array.getElem?_toList, toList_madeCells_one]; rfl
  have m9 : (madeCells #[.int .i64 0] 16)[9]? = some (.int .i64 0) := by rw [← Array.getElem?_toList, toList_madeCells_one]; rfl
  clear hW hL
  go_enter Try.func36, Try.ntmps36
  go_wp2_with fail
  rw [← HW.out.1, ← HW.out.2]
  clear hmk m3 m9
  refine (enew_calls W1).mono ?_
  rintro r w1 ⟨rfl, h1, c1⟩
  obtain ⟨g, hg⟩ : ∃ g, g = W1.heap.size := ⟨_, rfl⟩
  have H1 : Aside0 (EncAt w1 (One g) g E.new ∧ Chg W1 w1 No ∧ Blk w1 L l9 ∧ w.heap.size ≤ g ∧ L ≠ g ∧ Chg w w1 No) := by
    rw [hg]
    exact ⟨h1, c1, HB.out.1.chg c1 (fun h => h), HB.out.2.size, Nat.ne_of_lt HB.out.1.lt, HB.out.2.trans c1 (Ext.refl _ _)⟩
  rw [← hg]
  clear h1 c1 hg
  go_wp2_with fail
  have HWr := write_calls w1 (One g) g E.new L 0 16 0 1 l9 H1.out.1 EGood.new (by omega) (by have := H1.out.2.2.1.rb 0 16 (by decide); exact this) (by decide) (by omega) (fun hh => H1.out.2.2.2.2.1 hh) l9_good l9_at
  rw [show l9.length = 16 from rfl] at HWr
  with_reducible refine HWr.mono ?_
  clear HWr
  rintro r w2 ⟨rfl, f2, h2, c2, x2⟩
  have H2 : Aside0 (EncAt w2 f2 g e9 ∧ Chg w w2 No ∧ Blk w2 L l9 ∧ Ge w.heap.size f2 ∧ ¬ f2 L) :=
    ⟨h2, H1.out.2.2.2.2.2.trans c2 (fun k hk => .inr (by rw [show k = g from hk]; exact H1.out.2.2.2.1)), H1.out.2.2.1.chg c2 (fun hh => H1.out.2.2.2.2.1 hh),
      fun k hk => (x2 k hk).elim (fun h9 => by rw [show k = g from h9]; exact H1.out.2.2.2.1) (fun h9 => Nat.le_trans H1.out.2.2.2.2.2.size h9), fun hh => (x2 L hh).elim (fun h9 => H1.out.2.2.2.2.1 h9) (fun h9 => by have := H1.out.2.2.1.lt; omega)⟩
  clear h2 c2 x2
  go_wp2_with fail
  refine (edone_calls w2 f2 g e9 20 H2.out.1 e9_good.ok e9_good.okr (by omega) e9_tell).mono ?_
  rintro r w3 ⟨v3, rfl, h3, c3, g3⟩
  have H3 : Aside0 (w3.ownsRow 0 5 1 v3 20 (nums .u8 x9) ∧ Chg w w3 No ∧ Blk w3 L l9) := ⟨h3, H2.out.2.1.trans c3 (Ext.refl _ _), H2.out.2.2.1.chg c3 (fun h => h)⟩
  clear h3 c3 g3
  go_wp2_with fail
  refine (dnew_calls w3 v3 x9 (Rd.own (by rw [x9_len]; exact H3.out.1)) x9_bytes (by rw [x9_len]; omega)).mono ?_
  rintro r w4 ⟨w0, d4, rfl, h4, c4, s4⟩
  obtain ⟨N1, N2, N3⟩ := new_ok x9 x9_bytes (by rw [x9_len]; omega)
  have H4 : Aside0 (DecAt w0 w4 d4 (D.new x9) ∧ Chg w w4 No ∧ Blk w4 L l9 ∧ w3.heap.size ≤ w0.heap.size ∧ DOk (D.new x9)) := ⟨h4, H3.out.2.1.trans c4 (Ext.refl _ _), H3.out.2.2.chg c4 (fun h => h), s4, N1⟩
  clear h4 c4 s4 N1 N3
  go_wp2_with fail
  refine (dread_calls w0 w4 d4 (D.new x9) 16 1 (by omega) (by omega) (by omega) H4.out.1 H4.out.2.2.2.2 (new_raw x9) (by omega)).mono ?_
  rintro r w5 ⟨L5, rfl, b5, h5, c5, s5⟩
  have H5 : Aside0 (Blk w5 L5 l9 ∧ Blk w5 L l9 ∧ Chg w w5 No) := by
    have q1 := H4.out.1.ge
    have q2 := H3.out.2.2.lt
    have q3 := H3.out.2.1.size
    refine ⟨by rw [← x9_reads]; exact b5, H4.out.2.2.1.chg c5 (fun hh => by have hh' : L = d4 := hh; have := H4.out.2.2.2.1; omega), H4.out.2.1.trans c5 (fun k hk => .inr (by rw [show k = d4 from hk]; have := H4.out.2.2.2.1; omega))⟩
  clear b5 h5 c5 s5
  go_wp2_with fail
  with_reducible refine (same_calls w5 _ _ l9 l9 (H5.out.1.rdn 16 rfl (by omega)) (H5.out.2.1.rdn 16 rfl (by omega)) (by decide)).mono ?_
  rintro r w6 ⟨rfl, m6, rfl⟩
  rw [show decide (l9 = l9) = true by simp]
  go_wp2_with fail
  have HG := good_calls (w5.drewN m6) (.slice (some ⟨L, 0, none⟩) 16 16) l9 ((H5.out.2.1.chg ((Chg.refl w5 No).drewN m6) (fun h => h)).rdn 16 rfl (by omega))
  rw [l9_good] at HG
  with_reducible refine HG.mono ?_
  clear HG
  rintro r w7 ⟨rfl, c7⟩
  have H7 : Aside0 (Chg w w7 No) := ⟨(H5.out.2.2.drewN m6).trans c7 (Ext.refl _ _)⟩
  clear c7
  go_wp2_with fail
  have HF := fewer_calls (w7.alloc (.cells #[.int .i64 3, .int .i64 (-2), .int .i64 1] 2)) (.slice (some ⟨w7.heap.size, 0, none⟩) 3 3) [3, -2, 1] 4 ((show Blk _ w7.heap.size [3, -2, 1] from heap_alloc_new w7 _).rdn 3 rfl (by omega)) (by decide)
  rw [few9] at HF
  with_reducible refine HF.mono ?_
  clear HF
  rintro r w8 ⟨L8, rfl, b8, c8, s8⟩
  have H8 : Aside0 (Blk w8 L8 [2, -1, 1] ∧ Chg w w8 No) := ⟨b8, (H7.out.alloc _).trans c8 (Ext.refl _ _)⟩
  clear b8 c8 s8
  go_wp2_with fail
  have HS := same_calls (w8.alloc (.cells #[.int .i64 2, .int .i64 (-1), .int .i64 1] 2)) (.slice (some ⟨L8, 0, none⟩) 3 3) (.slice (some ⟨w8.heap.size, 0, none⟩) 3 3) [2, -1, 1] [2, -1, 1] ((H8.out.1.chg ((Chg.refl w8 No).alloc _) (fun h => h)).rdn 3 rfl (by omega)) ((show Blk _ w8.heap.size [2, -1, 1] from heap_alloc_new w8 _).rdn 3 rfl (by omega)) (by decide)
  rw [show decide (([2, -1, 1] : List Int) = [2, -1, 1]) = true by simp] at HS
  with_reducible refine HS.mono ?_
  clear HS
  rintro r w9 ⟨rfl, m9, rfl⟩
  have H9 : Aside0 (Chg w ((w8.alloc (.cells #[.int .i64 2, .int .i64 (-1), .int .i64 1] 2)).drewN m9) No) := ⟨(H8.out.2.alloc _).drewN m9⟩
  go_wp2_with fail
  go_returns
  exact ⟨rfl, H9.out⟩
end Go.Proofs.Ytiabenmgbikllaa.M

-- QA
namespace Go.Proofs.Ytiabenmgbikllaa.M
set_option linter.unusedVariables false
open Go.RowKit Go.Proofs.YtiabenmgbikllaaW.PrintWords Go.Proofs.YtiabenmgbikllaaW.PrintLast Go.Proofs.YtiabenmgbikllaaW.PrintMore Go.Proofs.Ytiabenmgbikllaa.PAll
attribute [local go_sem] max2_int min2_int max_two min_two max_three min_three max_four min_four

theorem may_int (n : Int) : pulse_may.f n = some (decide (16 ≤ n ∧ n ≤ 480 ∧ Int.tmod n 16 = 0)) := by
  unfold pulse_may.f
  by_cases h1 : n ≥ 16
  · rw [if_pos h1]
    by_cases h2 : n ≤ 480
    · rw [if_pos h2]
      congr 1
      rw [Bool.eq_iff_iff]
      simp
      omega
    · rw [if_neg h2]; simp; omega
  · rw [if_neg h1]; simp; omega
set_option maxHeartbeats 400000 in
set_option maxRecDepth 100000 in
theorem dread_bad_calls (w : World) (g : Nat) (n : Int) (h : pulse_may.f n = some false) : Calls Try.prog 37 #[.pointer (some ⟨g, 0, none⟩), .int .i64 n] w fun r w' => r = .returned (.tuple #[.slice none 0 0, .int .i64 1]) ∧ ∃ m, w' = w.drewN m := by
  have HM := Aside0.mk h
  clear h
  go_enter Try.func37, Try.ntmps37
  go_wp2_with (go_at_call 85; refine (pulse_may.calls n false _ HM.out).mono ?_; rintro r w1 ⟨rfl, hd1⟩; obtain ⟨n1, rfl⟩ := hd1.out)
  go_returns
  exact ⟨rfl, _, rfl⟩
set_option maxHeartbeats 400000 in
set_option maxRecDepth 100000 in
theorem fewer_long_calls (w : World) (A : Option Addr) (n c : Nat) (most : Int) (h : 480 < n) (hn : n ≤ 140737488355328) : Calls Try.prog 42 #[.slice A n c, .int .i64 most] w fun r w' => r = .returned (.slice none 0 0) ∧ w' = w := by
  have hb : decide (480 < (n : Int)) = true := decide_eq_true (by omega)
  go_enter Try.func42, Try.ntmps42
  go_wp2_with fail
  go_returns
  exact ⟨rfl, rfl⟩
end Go.Proofs.Ytiabenmgbikllaa.M

-- RowA
namespace Go.Proofs.Ytiabenmgbikllaa.M
set_option linter.unusedVariables false
open Go.ChangeShapes Go.WideShapes Go.ChangeAt Go.RowKit Go.Proofs.YtiabenmgbikllaaW.PrintWords Go.Proofs.YtiabenmgbikllaaW.PrintLast Go.Proofs.YtiabenmgbikllaaW.PrintMore
/-- Each number is of the kind. -/
def OfKind (k : IntKind) (l : List Int) : Prop := ∀ x ∈ l, (Lit.int k x).wf = true
theorem OfKind.i64 {l : List Int} (h : OfKind .i64 l) : ∀ x ∈ l, -9223372036854775808 ≤ x ∧ x ≤ 9223372036854775807 := fun x hx => by
  have := h x hx
  simp only [Lit.wf, Bool.and_eq_true, decide_eq_true_eq] at this
  exact this
end Go.Proofs.Ytiabenmgbikllaa.M

-- QB
namespace Go.Proofs.Ytiabenmgbikllaa.M
set_option linter.unusedVariables false
open Go.RowKit Go.Proofs.YtiabenmgbikllaaW.PrintWords Go.Proofs.YtiabenmgbikllaaW.PrintLast Go.Proofs.YtiabenmgbikllaaW.PrintMore Go.Proofs.Ytiabenmgbikllaa.PAll
attribute [local go_sem] max2_int min2_int max_two min_two max_three min_three max_four min_four

theorem DecAt.drewN {w0 w : World} {g : Nat} {d : D} (h : DecAt w0 w g d) (n : Nat) : DecAt w0 (w.drewN n) g d := h.chg ((Chg.refl w No).drewN n) (fun h => h) (fun _ h => False.elim h)
end Go.Proofs.Ytiabenmgbikllaa.M

-- QC
namespace Go.Proofs.Ytiabenmgbikllaa.M
set_option linter.unusedVariables false
open Go.RowKit Go.Proofs.YtiabenmgbikllaaW.PrintWords Go.Proofs.YtiabenmgbikllaaW.PrintLast Go.Proofs.YtiabenmgbikllaaW.PrintMore Go.Proofs.Ytiabenmgbikllaa.PAll
attribute [local go_sem] max2_int min2_int max_two min_two max_three min_three max_four min_four

theorem may15 : pulse_may.f 15 = some false := by rw [may_int]; decide
theorem blk_alloc (w : World) (n : Nat) : Blk (w.alloc (.cells (madeCells #[.int .i64 0] n) 2)) w.heap.size (List.replicate n 0) := by
  have h := heap_alloc_new w (.cells (madeCells #[.int .i64 0] n) 2)
  unfold Blk
  rw [h]
  have e : madeCells #[.int .i64 0] n = (nums .i64 (List.replicate n 0)).toArray := by
    apply Array.toList_inj.1
    rw [toList_madeCells_one]
    simp [nums]
  rw [e]
def z16 : List Int := List.replicate 16 0
theorem z16_good : goodL z16 = true := by decide +kernel
theorem z16_bad : goodL (z16.set 0 17) = false := by decide +kernel
theorem rd_nil (w : World) (k : IntKind) : Rd w k (.slice none 0 0) [] := .inl ⟨rfl, rfl⟩
theorem bytes_nil : Bytes [] := by intro x hx; cases hx
theorem enew_tell : E.new.tell = 1 := by decide +kernel
set_option maxHeartbeats 1000000 in
set_option maxRecDepth 100000 in
theorem pulseKnown_calls (w : World) : Calls Try.prog 5 #[] w fun r w' => r = .returned (.bool true) ∧ Below w.heap.size w w' := by
  have hmk : ∀ W : World, (Instr.makeSlice 45 (.int .i64 16) (.int .i64 16)).run Try.prog W = .ok (.slice (some ⟨W.heap.size, 0, none⟩) 16 16) (W.alloc (.cells (madeCells #[.int .i64 0] 16) 2)) := print_make (P := Try.prog) 45 2 .i64 8 Try.underlying45 info2 (by omega) 16 (by omega)
  have hmk2 : ∀ W : World, (Instr.makeSlice 45 (.int .i64 481) (.int .i64 481)).run Try.prog W = .ok (.slice (some ⟨W.heap.size, 0, none⟩) 481 481) (W.alloc (.cells (madeCells #[.int .i64 0] 481) 2)) := print_make (P := Try.prog) 45 2 .i64 8 Try.underlying45 info2 (by omega) 481 (by omega)
  go_enter Try.func5, Try.ntmps5
  go_wp2_with fail
  refine (awake9_calls w).mono ?_
  rintro r w1 ⟨rfl, c1⟩
  have H1 := Aside0.mk c1
  clear c1
  go_wp2_with fail
  obtain ⟨L, hL⟩ : ∃ L, L = w1.heap.size := ⟨_, rfl⟩
  obtain ⟨W1, hW⟩ : ∃ W1, W1 = w1.alloc (.cells (madeCells #[.int .i64 0] 16) 2) := ⟨_, rfl⟩
  have HB : Aside0 (Blk W1 L z16 ∧ Chg w W1 No ∧ w.heap.size ≤ L) := ⟨by rw [hL, hW]; exact blk_alloc w1 16, by rw [hW]; exact H1.out.alloc _, by rw [hL]; exact H1.out.size⟩
  rw [← hL, ← hW]
  clear hW hL
  with_reducible refine (dnew_calls W1 (.slice none 0 0) [] (rd_nil _ _) bytes_nil (by simp)).mono ?_
  rintro r w2 ⟨w0, g, rfl, d2, c2, s2⟩
  have H2 : Aside0 (Blk w2 L z16 ∧ Chg w w2 No) := ⟨HB.out.1.chg c2 (fun h => h), HB.out.2.1.trans c2 (Ext.refl _ _)⟩
  clear d2 c2 s2
  go_wp2_with fail
  with_reducible refine (dread_bad_calls w2 g 15 may15).mono ?_
  rintro r w3 ⟨rfl, m3, rfl⟩
  have H3 : Aside0 (Blk (w2.drewN m3) L z16 ∧ Chg w (w2.drewN m3) No) := ⟨H2.out.1.chg ((Chg.refl w2 No).drewN m3) (fun h => h), H2.out.2.drewN m3⟩
  go_wp2_with fail
  with_reducible refine (enew_calls (w2.drewN m3)).mono ?_
  rintro r w4 ⟨rfl, e4, c4⟩
  obtain ⟨G, hG⟩ : ∃ G, G = (w2.drewN m3).heap.size := ⟨_, rfl⟩
  rw [← hG] at e4 ⊢
  have H4 : Aside0 (Blk w4 L z16 ∧ Chg w w4 No ∧ EncAt w4 (One G) G E.new ∧ L ≠ G ∧ w.heap.size ≤ G) := ⟨H3.out.1.chg c4 (fun h => h), H3.out.2.trans c4 (Ext.refl _ _), e4, by have := H3.out.1.lt; omega, by have := H3.out.2.size; omega⟩
  clear e4 c4 hG
  have k0 : w4.cell? ⟨L, 0, none⟩ = some (.int .i64 0) := H4.out.1.cell 0 (by decide)
  have k1 : w4.frozen? ⟨L, 0, none⟩ = false := H4.out.1.frozen 0
  go_wp2_with fail
  obtain ⟨M, hM⟩ : ∃ M, M = w4.heap.size := ⟨_, rfl⟩
  obtain ⟨W5, hW5⟩ : ∃ W5, W5 = (w4.setCell ⟨L, 0, none⟩ (.int .i64 17)).alloc (.cells (madeCells #[.int .i64 0] 16) 2) := ⟨_, rfl⟩
  have H5 : Aside0 (Blk W5 M z16 ∧ Blk W5 L (z16.set 0 17) ∧ Chg w W5 No ∧ EncAt W5 (One G) G E.new) := by
    have q1 : Chg w4 (w4.setCell ⟨L, 0, none⟩ (.int .i64 17)) (One L) := (Chg.refl w4 (One L)).setCell (p := ⟨L, 0, none⟩) (.inl rfl) _
    have q2 : Chg w4 W5 (One L) := by rw [hW5]; exact q1.alloc _
    refine ⟨?_, ?_, H4.out.2.1.trans q2 (fun k hk => .inr (by rw [show k = L from hk]; exact HB.out.2.2)), H4.out.2.2.1.chg q2 (fun c hc hh => H4.out.2.2.2.1 ((show c = L from hh).symm.trans hc))⟩
    · rw [hW5, hM, show w4.heap.size = (w4.setCell ⟨L, 0, none⟩ (.int .i64 17)).heap.size by simp]
      exact blk_alloc _ 16
    · rw [hW5]
      exact (H4.out.1.set 0 17).chg ((Chg.refl _ No).alloc _) (fun h => h)
  rw [← hM, ← hW5]
  clear hM hW5 hmk
  have G1 := good_calls W5 (.slice (some ⟨M, 0, none⟩) 16 16) z16 (H5.out.1.rdn 16 (by decide) (by omega))
  rw [z16_good] at G1
  with_reducible refine G1.mono ?_
  clear G1
  rintro r w6 ⟨rfl, c6⟩
  have H6 := Aside0.mk c6
  clear c6
  go_wp2_with fail
  have G2 := good_calls w6 (.slice none 0 0) [] (rd_nil _ _)
  rw [show goodL [] = false by decide +kernel] at G2
  with_reducible refine G2.mono ?_
  clear G2
  rintro r w7 ⟨rfl, c7⟩
  have H7 : Aside0 (Blk w7 L (z16.set 0 17)) := ⟨(H5.out.2.1.chg H6.out (fun h => h)).chg c7 (fun h => h)⟩
  have H7b := Aside0.mk c7
  clear c7
  go_wp2_with fail
  have G3 := good_calls w7 (.slice (some ⟨L, 0, none⟩) 16 16) (z16.set 0 17) (H7.out.rdn 16 (by decide) (by omega))
  rw [z16_bad] at G3
  with_reducible refine G3.mono ?_
  clear G3
  rintro r w8 ⟨rfl, c8⟩
  have H8 : Aside0 (Blk w8 L (z16.set 0 17)) := ⟨H7.out.chg c8 (fun h => h)⟩
  have H8b := Aside0.mk c8
  clear c8
  go_wp2_with fail
  with_reducible refine (write_bad_calls w8 G (.slice (some ⟨L, 0, none⟩) 16 16) (z16.set 0 17) (H8.out.rdn 16 (by decide) (by omega)) z16_bad).mono ?_
  rintro r w9 ⟨rfl, c9⟩
  have H9 : Aside0 (EncAt w9 (One G) G E.new ∧ Chg w w9 No) := by
    have q : Chg W5 w9 No := ((H6.out.trans H7b.out (Ext.refl _ _)).trans H8b.out (Ext.refl _ _)).trans c9 (Ext.refl _ _)
    exact ⟨H5.out.2.2.2.chg q (fun _ _ h => h), H5.out.2.2.1.trans q (Ext.refl _ _)⟩
  clear c9
  go_wp2_with fail
  have G4 := etell_calls w9 (One G) G E.new H9.out.1 EOk.new
  rw [enew_tell] at G4
  with_reducible refine G4.mono ?_
  clear G4
  rintro r w10 ⟨rfl, n10, rfl⟩
  go_wp2_with fail
  with_reducible refine (fewer_long_calls _ _ 481 481 3 (by omega) (by omega)).mono ?_
  rintro r w11 ⟨rfl, rfl⟩
  go_wp2_with fail
  go_returns
  exact ⟨rfl, ((H9.out.2.drewN n10).alloc _).below_no⟩
end Go.Proofs.Ytiabenmgbikllaa.M
