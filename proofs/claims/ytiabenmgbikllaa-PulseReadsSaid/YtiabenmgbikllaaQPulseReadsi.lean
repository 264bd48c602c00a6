/- Contracts of the program's functions and plain laws for the law PulseReads, several texts in one (part 9); the program's functions as Lean functions came out of the kit's print. Conditions: each theorem's own. -/
import Derived.Test.YtiabenmgbikllaaQPulseReadsh
-- E8
namespace Go.Proofs.Ytiabenmgbikllaa.M
open Go.RowKit Go.Proofs.YtiabenmgbikllaaW.PrintWords Go.Proofs.YtiabenmgbikllaaW.PrintLast Go.Proofs.YtiabenmgbikllaaW.PrintMore Go.Proofs.Ytiabenmgbikllaa.PAll
attribute [local go_sem] max2_int min2_int max_two min_two max_three min_three max_four min_four

/-- The code's lower end, as bytes. -/
def E.all (e : E) : List Int := e.told ++ [e.val / 8388608 % 256, e.val / 32768 % 256, e.val / 128 % 256, e.val * 2 % 256]
/-- The bit i of the end is laid into the bytes. -/
def layBit (raw : List Int) (n : Nat) (out : List Int) (i : Nat) : List Int :=
  out.set (n - 1 - i / 8) (bits .or .u8 (bits .andNot .u8 (rd out ((n - 1 - i / 8 : Nat) : Int)) (2 ^ (i % 8))) (bits .and .u8 (rd raw ((i / 8 : Nat) : Int)) (2 ^ (i % 8))))
def layBits (raw : List Int) (n : Nat) (out : List Int) : Nat → List Int
  | 0 => out
  | i + 1 => layBit raw n (layBits raw n out i) i
def E.out0 (e : E) (n : Nat) : List Int := e.all.take n ++ (List.replicate n 0).drop e.all.length
def E.out1 (e : E) (n : Nat) : List Int := if n < e.all.length ∧ anyNZ (e.all.drop n) = true then increase (e.out0 n) 0 else e.out0 n
def E.out2 (e : E) (n : Nat) : List Int := layBits e.raw n (e.out1 n) e.rawBits.toNat
def E.done (e : E) (n : Nat) : List Int := if cmpL (e.out2 n) (e.out1 n) < 0 then increase (e.out2 n) e.rawBits.toNat else e.out2 n
structure EOkR (e : E) : Prop where
  b0 : 0 ≤ e.rawBits
  len : (e.raw.length : Int) = (e.rawBits + 7) / 8
  cnt : e.count = 33 + 8 * e.told.length + e.rawBits
  tb : Bytes e.told
  rb : Bytes e.raw

theorem bitLenAux_lt : ∀ n x k, x < 2 ^ k → Lib.bitLenAux n x ≤ k
  | 0, _, _, _ => Nat.zero_le _
  | n + 1, x, 0, h => by
    have : x = 0 := by simpa using h
    simp [Lib.bitLenAux, this]
  | n + 1, x, k + 1, h => by
    have := bitLenAux_lt n (x / 2) k (by rw [Nat.pow_succ] at h; omega)
    simp only [Lib.bitLenAux]
    split <;> omega
theorem bitLen_le32 (x : Nat) (h : x ≤ 2147483648) : Lib.bitLen x ≤ 32 := bitLenAux_lt 64 x 32 (by omega)
theorem Bytes.app {a b : List Int} (h : Bytes a) (k : Bytes b) : Bytes (a ++ b) := fun x hx => by
  rcases List.mem_append.1 hx with hx | hx
  · exact h x hx
  · exact k x hx
theorem Bytes.rep (n : Nat) : Bytes (List.replicate n 0) := fun x hx => by rw [List.eq_of_mem_replicate hx]; omega
theorem Bytes.take {a : List Int} (h : Bytes a) (n : Nat) : Bytes (a.take n) := fun x hx => h x (List.mem_of_mem_take hx)
theorem Bytes.drop {a : List Int} (h : Bytes a) (n : Nat) : Bytes (a.drop n) := fun x hx => h x (List.mem_of_mem_drop hx)
theorem E.all_bytes (e : E) (h : EOkR e) : Bytes e.all := h.tb.app (fun x hx => by
  simp at hx
  omega)
theorem E.out0_bytes (e : E) (n : Nat) (h : EOkR e) : Bytes (e.out0 n) := ((e.all_bytes h).take n).app ((Bytes.rep n).drop _)

theorem wrap_u8_range (x : Int) : 0 ≤ IntKind.u8.wrap x ∧ IntKind.u8.wrap x < 256 := by rw [IntKind.wrap_u8]; omega
theorem bits_u8_range (o : BinOp) (a b : Int) : 0 ≤ bits o .u8 a b ∧ bits o .u8 a b < 256 := by
  unfold bits
  split <;> exact wrap_u8_range _
theorem layBits_bytes (raw : List Int) (n : Nat) (out : List Int) (h : Bytes out) : ∀ i, Bytes (layBits raw n out i)
  | 0 => h
  | i + 1 => (layBits_bytes raw n out h i).set _ _ (bits_u8_range _ _ _)
theorem increase_bytes (l : List Int) (p : Nat) (h : Bytes l) : Bytes (increase l p) := by
  unfold increase
  generalize (2 : Int) ^ (p % 8) = c
  generalize l.length - p / 8 = k
  induction k generalizing l c with
  | zero => exact h
  | succ k ih =>
    unfold incN
    split
    · exact ih _ (h.set _ _ (by omega)) _
    · exact h
theorem E.out1_bytes (e : E) (n : Nat) (h : EOkR e) : Bytes (e.out1 n) := by
  unfold E.out1
  split
  · exact increase_bytes _ _ (e.out0_bytes n h)
  · exact e.out0_bytes n h
theorem E.out2_bytes (e : E) (n : Nat) (h : EOkR e) : Bytes (e.out2 n) := layBits_bytes _ _ _ (e.out1_bytes n h) _

set_option maxHeartbeats 2000000 in
set_option maxRecDepth 100000 in
theorem edone_calls (w : World) (f : Nat → Prop) (g : Nat) (e : E) (n : Nat) (h : EncAt w f g e) (hk : EOk e) (hr : EOkR e) (hn : n ≤ 1275) (hfit : e.tell ≤ 8 * n) :
    Calls Try.prog 44 #[.pointer (some ⟨g, 0, none⟩), .int .i64 n] w fun r w' => ∃ v, r = .returned (.tuple #[v, .int .i64 0]) ∧ w'.ownsRow 0 5 1 v n (nums .u8 (e.done n)) ∧ Chg w w' No ∧ Ge w.heap.size (blkOf v) := by
  have HK := Aside0.mk (And.intro h (And.intro hk hr))
  clear h hk hr
  go_enter Try.func44, Try.ntmps44
  go_upto_region 5 with (go_at_call 41; refine (etell_calls _ f g e HK.out.1 HK.out.2.1).mono ?_; rintro r w1 ⟨rfl, nd, rfl⟩)
  obtain ⟨⟨vt, vr, hE⟩, hok, hokr⟩ := HK.out
  have CE : Aside0 (∀ W, Chg w W No → EAt W f g e vt vr) := ⟨fun W hW => hE.chg hW (fun _ _ hh => hh)⟩
  go_cut [6] (fun s6 wx => Aside0 (wx.ownsRow 0 5 1 s6 e.all.length (nums .u8 e.all) ∧ Chg w wx No ∧ Ge w.heap.size (blkOf s6)))
  case first =>
    have CR : Aside0 (∀ W, Chg w W No → Rd W .u8 vt e.told) := ⟨fun W hW => Rd.own (CE.out W hW).ot⟩
    have k0 := hE.c0
    have k1 := hE.c1
    have hgs : g < w.heap.size := hE.lt g hE.hg
    have v0 := hok.v0
    have v1 := hok.v1
    have hln := hok.n
    have u1 : IntKind.u8.wrap (e.val / 8388608) = e.val / 8388608 % 256 := IntKind.wrap_u8 _
    have u2 : IntKind.u8.wrap (e.val / 32768) = e.val / 32768 % 256 := IntKind.wrap_u8 _
    have u3 : IntKind.u8.wrap (e.val / 128) = e.val / 128 % 256 := IntKind.wrap_u8 _
    have u4 : IntKind.u8.wrap (e.val * 2) = e.val * 2 % 256 := IntKind.wrap_u8 _
    have u5 : IntKind.u64.wrap (e.val * 2) = e.val * 2 := wraps_u64 _ (by omega) (by omega)
    clear hE hok hokr
    go_region_held3 (fun w' => w'.cell? ⟨g, 0, none⟩ = some vt ∧ w'.cell? ⟨g, 1, none⟩ = some (.int .u64 e.val)) (first | go_keep | exact ⟨by assumption, by assumption⟩) (first
      | (refine appNs rfl (.tmp 29) (.tmp 54) 26 5 .u8 1 rfl Try.underlying26 info5 (by omega) _ e.told [e.val / 8388608 % 256, e.val / 32768 % 256, e.val / 128 % 256, e.val * 2 % 256] _ 4 4 rfl rfl rfl ?_ ?_ ?_ ?_
         · intro j hj
           have hj4 : j = 0 ∨ j = 1 ∨ j = 2 ∨ j = 3 := by omega
           rcases hj4 with rfl | rfl | rfl | rfl <;> first | exact blk_cell HB.out _ | go_simp
         · first
           | exact own_alloc HO.out.1 _
           | exact HO.out.1
         · omega
         intro vb w2 ho hch hxt
         have hch2 : Chg w w2 No := by
           refine Chg.trans ?_ hch (Ext.new HO.out.2.2)
           repeat (first | exact HO.out.2.1 | apply Chg.alloc | apply Chg.drew | apply Chg.drewN)
         have hge2 : Ge w.heap.size (blkOf vb) := by
           refine HO.out.2.2.ext ?_ hxt
           refine Nat.le_trans HO.out.2.1.size ?_
           first | exact Nat.le_refl _ | simp
         obtain ⟨r0, r1, _, _, _, _, rf⟩ := ecell (CE.out w2 hch2).blk
         have HA := Aside0.mk (And.intro ho (And.intro hch2 hge2))
         clear ho hch hxt hch2 hge2 rf)
      | (go_at_call 69
         refine (clone_calls _ vt e.told (CR.out _ (by repeat (first | exact Chg.refl _ _ | apply Chg.alloc | apply Chg.drew | apply Chg.drewN))) (by omega)).mono ?_
         rintro r w1 ⟨va, rfl, ho, hch, hge⟩
         have hch' : Chg w w1 No := Chg.trans (by repeat (first | exact Chg.refl _ _ | apply Chg.alloc | apply Chg.drew | apply Chg.drewN)) hch (Ext.refl _ _)
         obtain ⟨q0, q1, _, _, _, _, qf⟩ := ecell (CE.out w1 hch').blk
         have hgs1 : g < w1.heap.size := (CE.out w1 hch').lt g (CE.out w1 hch').hg
         try have HB := Aside0.mk (hch.blk (g := w.heap.size) (o := .cells #[.int .u8 (e.val / 8388608 % 256), .int .u8 (e.val / 32768 % 256), .int .u8 (e.val / 128 % 256), .int .u8 (e.val * 2 % 256)] 5) (heap_alloc_new w _) (fun h => h))
         have HO := Aside0.mk (And.intro ho (And.intro hch' (show Ge w.heap.size (blkOf va) from fun b hb => by have := hge b hb; simp at this; omega)))
         clear ho hch hge hch' qf))
    all_goals
      go_wp2_with fail
      go_meet
      exact HA
  case rest =>
    clear hE hok hokr
    obtain ⟨A6, c6, rfl⟩ := own_slice hcut.out.1
    have hmk := print_make (P := Try.prog) 26 5 .u8 1 Try.underlying26 info5 (by omega) n (by omega)
    have hsz5 : (Try.prog.info? 5).map (·.size) = some 1 := by
      obtain ⟨i0, hi, hz0, hz1, hz2⟩ := info_parts info5
      rw [hi]; simp [hz1]
    have HM : Aside0 ((wc.alloc (.cells (madeCells #[.int .u8 0] n) 5)).ownsRow 0 5 1 (.slice (some ⟨wc.heap.size, 0, none⟩) n n) n (nums .u8 (List.replicate n 0)) ∧ ReadsInt (wc.alloc (.cells (madeCells #[.int .u8 0] n) 5)) .u8 A6 e.all.length e.all) :=
      ⟨own_made wc 0 5 .u8 n (Nat.zero_le _) (by omega), (own_reads' hcut.out.1).below (below_alloc (Below.refl _ _) _)⟩
    have hall : e.all.length ≤ 200000000000 := by
      have := HK.out.2.1.n
      simp [E.all]; omega
    go_upto_region 8 with (with_reducible refine copyRow (o := ⟨some 60, _, _, _, _, _⟩) rfl (.tmp 58) (.tmp 59) 26 5 .u8 rfl Try.underlying26 hsz5 wc.heap.size n n (List.replicate n 0) e.all A6 c6 rfl rfl HM.out.1 HM.out.2 ?_; intro w3 ho3 hc3)
    have H3 : Aside0 (w3.ownsRow 0 5 1 (.slice (some ⟨wc.heap.size, 0, none⟩) n n) n (nums .u8 (e.out0 n)) ∧ Chg w w3 No ∧ w.heap.size ≤ wc.heap.size ∧ w3.ownsRow 0 5 1 (.slice A6 e.all.length c6) e.all.length (nums .u8 e.all)) := by
      refine ⟨ho3, Chg.trans (hcut.out.2.1.alloc _) hc3 (fun k hk => .inr (by rw [hk]; exact hcut.out.2.1.size)), hcut.out.2.1.size, hc3.own (own_alloc hcut.out.1 _) (fun k hk hh => ?_)⟩
      have := own_lt hcut.out.1 k hk
      omega
    clear ho3 hc3 HM hmk
    generalize hgo : wc.heap.size = go at *
    clear hcut hgo
    generalize hL : e.all.length = L at *
    have HL := Aside0.mk hL
    clear hL
    obtain ⟨bb, hbb⟩ : ∃ b : Bool, b = (decide (n < L) && anyNZ (e.all.drop n)) := ⟨_, rfl⟩
    have HBB := Aside0.mk hbb
    clear hbb
    go_frame
    go_cut [70] (fun s70 wx => ∃ nd, s70 = .bool bb ∧ wx = w3.drewN nd)
    case first =>
      by_cases hl : n < L
      · obtain ⟨A8, hsl, hrd, hcap⟩ := print_cut_int (P := Try.prog) (k := .u8) 26 5 Try.underlying26 (Classical.choose_spec (Option.map_eq_some_iff.1 hsz5)).1 (Classical.choose_spec (Option.map_eq_some_iff.1 hsz5)).2 A6 c6 e.all n (by omega) (by rw [HL.out]; omega) (by rw [HL.out]; exact own_le H3.out.2.2.2)
        have hd : (e.all.drop n).length = L - n := by rw [List.length_drop, HL.out]
        rw [Int.toNat_natCast, HL.out] at hsl
        rw [Int.toNat_natCast] at hrd
        have hlb : decide (n < L) = true := by simpa using hl
        have hcon := contains_calls w3 A8 (c6 - n) (e.all.drop n) (hrd w3 (by rw [HL.out]; exact own_reads' H3.out.2.2.2)) (by rw [hd]; omega)
        rw [hd] at hcon
        have HR := Aside0.mk hcon
        clear hrd hcap hcon
        rw [hd] at hsl
        go_wp2_with fail
        refine HR.out.mono ?_
        rintro r w4 ⟨rfl, rfl⟩
        go_wp2_with fail
        go_meet
        exact ⟨0, by rw [HBB.out, hlb]; rfl, rfl⟩
      · have hlb : decide (n < L) = false := by simpa using hl
        go_wp2_with fail
        go_meet
        exact ⟨0, by rw [HBB.out, hlb]; rfl, rfl⟩
    case rest =>
      obtain ⟨nd, rfl, rfl⟩ := hcut
      go_upto_if 70 with fail
      go_cut [] (fun wx => Aside0 (wx.ownsRow 0 5 1 (.slice (some ⟨go, 0, none⟩) n n) n (nums .u8 (e.out1 n)) ∧ Chg w wx No ∧ w.heap.size ≤ go))
      case first =>
        cases bb with
        | true =>
          have h1 : e.out1 n = increase (e.out0 n) 0 := by
            rw [E.out1, HL.out, if_pos (by simpa using HBB.out.symm)]
          have h2 : (e.out0 n).length = n := by have := H3.out.1.1; simpa [nums] using this
          have HI := increase_calls (w3.drewN nd) (.slice (some ⟨go, 0, none⟩) n n) (e.out0 n) 0 (by rw [h2]; exact H3.out.1) (e.out0_bytes n HK.out.2.2) (by simp) (by omega)
          rw [h2, ← h1] at HI
          have HI' := Aside0.mk HI
          clear HI h1 h2
          go_wp2_with fail
          refine HI'.out.mono ?_
          rintro r w4 ⟨rfl, ho4, hc4⟩
          have H4 : Aside0 (w4.ownsRow 0 5 1 (.slice (some ⟨go, 0, none⟩) n n) n (nums .u8 (e.out1 n)) ∧ Chg w w4 No ∧ w.heap.size ≤ go) := ⟨ho4, Chg.trans (H3.out.2.1.drewN _) hc4 (Ext.slice H3.out.2.2.1), H3.out.2.2.1⟩
          clear ho4 hc4
          go_wp2_with fail
          go_meet
          exact H4
        | false =>
          have h1 : e.out1 n = e.out0 n := by
            rw [E.out1, HL.out, if_neg (by have := HBB.out.symm; simpa using this)]
          go_wp2_with fail
          go_meet
          exact ⟨by rw [h1]; exact H3.out.1, H3.out.2.1.drewN _, H3.out.2.2.1⟩
      case rest =>
        clear hsz5 HBB HL H3
        obtain ⟨m, hm⟩ := Int.eq_ofNat_of_zero_le HK.out.2.2.b0
        have HM := Aside0.mk hm
        have k4 := (CE.out wc hcut.out.2.1).c4
        rw [hm] at k4
        have hm8 : m ≤ 8 * n := by
          have h1 := HK.out.2.2.cnt
          have h2 := bitLen_le32 e.rng.toNat (by have := HK.out.2.1.r2; omega)
          unfold E.tell at hfit
          omega
        have hml : (e.raw.length : Int) = (m + 7) / 8 := by rw [← hm]; exact HK.out.2.2.len
        clear hm
        have hol : (e.out1 n).length = n := by have := hcut.out.1.1; simpa [nums] using this
        have HOL := Aside0.mk hol
        clear hol
        go_wp2_with (go_at_call 69; refine (clone_calls wc _ (e.out1 n) (Rd.own (e := 5) (by rw [HOL.out]; exact hcut.out.1)) (by rw [HOL.out]; omega)).mono ?_; rintro r w5 ⟨vl, rfl, ho5, hc5, hg5⟩; have k4' := (CE.out w5 (hcut.out.2.1.trans hc5 (Ext.refl _ _))).c4; rw [HM.out] at k4')
        have H5 : Aside0 (w5.ownsRow 0 5 1 vl n (nums .u8 (e.out1 n)) ∧ w5.ownsRow 0 5 1 (.slice (some ⟨go, 0, none⟩) n n) n (nums .u8 (e.out1 n)) ∧ Chg w w5 No ∧ ¬ blkOf vl go ∧ w.heap.size ≤ go) := by
          refine ⟨by have := ho5; rwa [HOL.out] at this, hc5.own hcut.out.1 (fun _ _ h => h), hcut.out.2.1.trans hc5 (Ext.refl _ _), fun hh => ?_, hcut.out.2.2⟩
          have h1 := hg5 go hh
          have h2 := own_lt hcut.out.1 go rfl
          omega
        clear ho5 hc5 hg5 k4 hcut
        go_loopg [9, 10, 11, 79] m (fun k u9 u10 u11 u79 wr => ∃ i : Nat, u79 = .int .i64 i ∧ k + i = m ∧ Aside0 (wr.ownsRow 0 5 1 vl n (nums .u8 (e.out1 n)) ∧ wr.ownsRow 0 5 1 (.slice (some ⟨go, 0, none⟩) n n) n (nums .u8 (layBits e.raw n (e.out1 n) i)) ∧ Chg w wr No))
        case atStart => exact ⟨0, rfl, by omega, ⟨H5.out.1, H5.out.2.1, H5.out.2.2.1⟩⟩
        case round =>
          clear k4'
          obtain ⟨i, rfl, hki, HR⟩ := hrel
          by_cases him : i < m
          · have hEr := CE.out wr HR.out.2.2
            have k3 := hEr.c3
            have k4 := hEr.c4
            rw [HM.out] at k4
            have hor := hEr.orw
            obtain ⟨A9, c9, rfl⟩ := own_slice hor
            obtain ⟨q, hq⟩ : ∃ q : Nat, q = i / 8 := ⟨_, rfl⟩
            obtain ⟨t, ht⟩ : ∃ t : Nat, t = n - 1 - q := ⟨_, rfl⟩
            have hqr : q < e.raw.length := by omega
            have htn : t < n := by omega
            have hqn : q < n := by omega
            have eq : (i : Int) / 8 = (q : Int) := by omega
            have et : (n : Int) - 1 - (q : Int) = (t : Int) := by omega
            have HQ : Aside0 (q = i / 8 ∧ t = n - 1 - i / 8) := ⟨hq, by rw [ht, hq]⟩
            clear hq ht
            obtain ⟨ad9, rfl, hx9⟩ := (own_reads' hor).at_ (q : Int) (by omega) (by omega)
            obtain ⟨ck, fk⟩ := own_at HR.out.2.1 (t : Int) (by omega) (by omega)
            simp only [Int.toNat_natCast] at ck fk hx9
            generalize hrl : e.raw.length = R at *
            have HRL := Aside0.mk hrl
            clear hEr hor hrl
            have hp : (2 : Int) ^ (i % 8) % 256 = 2 ^ (i % 8) := by have := pow_range i; omega
            go_wp2_with fail
            go_region
            go_wp2_with fail
            have eq2 : (i : Int).tdiv 8 = (q : Int) := by rw [Int.tdiv_eq_ediv_of_nonneg (by omega)]; exact eq
            have eq3 : IntKind.i64.wrap (q : Int) = (q : Int) := IntWalk.i64_in _ (by omega)
            have HX : Aside0 ((wr.setCell ⟨go, t, none⟩ (.int .u8 (bits .or .u8 (bits .andNot .u8 (rd (layBits e.raw n (e.out1 n) i) t) (2 ^ (i % 8))) (bits .and .u8 (rd e.raw q) (2 ^ (i % 8)))))).ownsRow 0 5 1 vl n (nums .u8 (e.out1 n)) ∧
                (wr.setCell ⟨go, t, none⟩ (.int .u8 (bits .or .u8 (bits .andNot .u8 (rd (layBits e.raw n (e.out1 n) i) t) (2 ^ (i % 8))) (bits .and .u8 (rd e.raw q) (2 ^ (i % 8)))))).ownsRow 0 5 1 (.slice (some ⟨go, 0, none⟩) n n) n (nums .u8 (layBits e.raw n (e.out1 n) (i + 1))) ∧
                Chg w (wr.setCell ⟨go, t, none⟩ (.int .u8 (bits .or .u8 (bits .andNot .u8 (rd (layBits e.raw n (e.out1 n) i) t) (2 ^ (i % 8))) (bits .and .u8 (rd e.raw q) (2 ^ (i % 8)))))) No) := by
              obtain ⟨h1, h2, h3⟩ := HR.out
              refine ⟨own_setCell (p := ⟨go, t, none⟩) h1 (fun hh => H5.out.2.2.2.1 hh.symm) _, ?_, h3.setCell (p := ⟨go, t, none⟩) (.inr H5.out.2.2.2.2) _⟩
              have := (own_store h2 (t : Int) (bits .or .u8 (bits .andNot .u8 (rd (layBits e.raw n (e.out1 n) i) t) (2 ^ (i % 8))) (bits .and .u8 (rd e.raw q) (2 ^ (i % 8))))).1
              rw [Int.toNat_natCast] at this
              show World.ownsRow _ 0 5 1 _ n (nums .u8 (layBit e.raw n (layBits e.raw n (e.out1 n) i) i))
              unfold layBit
              rw [← HQ.out.1, show n - 1 - q = t by rw [HQ.out.1, HQ.out.2]]
              exact this
            go_region
            all_goals
              go_wp2_with fail
              go_roundg (gk - 1)
              case measure => omega
              case rel => exact ⟨i + 1, by go_num, by omega, ⟨HX.out.1, HX.out.2.1, (HX.out.2.2.drew).drew⟩⟩
          · have hmi : i = m := by omega
            have H6 : Aside0 (wr.ownsRow 0 5 1 vl n (nums .u8 (e.out1 n)) ∧ wr.ownsRow 0 5 1 (.slice (some ⟨go, 0, none⟩) n n) n (nums .u8 (e.out2 n)) ∧ Chg w wr No) := ⟨HR.out.1, by rw [E.out2, HM.out, Int.toNat_natCast, ← hmi]; exact HR.out.2.1, HR.out.2.2⟩
            obtain ⟨Al, cl, rfl⟩ := own_slice H6.out.1
            clear HR hmi
            have k4 := (CE.out wr H6.out.2.2).c4
            rw [HM.out] at k4
            have hl2 : (e.out2 n).length = n := by have := H6.out.2.1.1; simpa [nums] using this
            have hb2 : Bytes (e.out2 n) := e.out2_bytes n HK.out.2.2
            obtain ⟨cc, hcc⟩ : ∃ c : Int, c = cmpL (e.out2 n) (e.out1 n) := ⟨_, rfl⟩
            have HC := Aside0.mk (And.intro hl2 (And.intro hb2 hcc))
            clear hl2 hb2
            by_cases hneg : cc < 0
            · have hdone : e.done n = increase (e.out2 n) m := by rw [E.done, ← hcc, if_pos hneg, HM.out]; rfl
              have HD := Aside0.mk hdone
              clear hdone hcc
              go_wp2_with (first
                | (go_at_call 99; refine (compare_calls wr n _ _ _ _ (e.out2 n) (e.out1 n) H6.out.2.1 H6.out.1 (by omega)).mono ?_; rintro r w6 ⟨rfl, ⟨nd6, rfl⟩⟩; rw [← HC.out.2.2])
                | (go_at_call 98; have HI := Aside0.mk (increase_calls (wr.drewN nd6) (.slice (some ⟨go, 0, none⟩) n n) (e.out2 n) m (by rw [HC.out.1]; exact H6.out.2.1) HC.out.2.1 (by rw [HC.out.1]; omega) (by rw [HC.out.1]; omega)); refine HI.out.mono ?_; rintro r w7 ⟨rfl, ho7, hc7⟩; have H7 := Aside0.mk (And.intro ho7 hc7); clear ho7 hc7))
              go_returns
              obtain ⟨ho7, hc7⟩ := H7.out
              exact ⟨_, rfl, by rw [HD.out]; rw [HC.out.1] at ho7; exact ho7, Chg.trans (H6.out.2.2.drewN _) hc7 (Ext.slice H5.out.2.2.2.2), Ge.slice H5.out.2.2.2.2⟩
            · have hdone : e.done n = e.out2 n := by rw [E.done, ← hcc, if_neg hneg]
              have HD := Aside0.mk hdone
              clear hdone hcc
              go_wp2_with (first
                | (go_at_call 99; refine (compare_calls wr n _ _ _ _ (e.out2 n) (e.out1 n) H6.out.2.1 H6.out.1 (by omega)).mono ?_; rintro r w6 ⟨rfl, ⟨nd6, rfl⟩⟩; rw [← HC.out.2.2]))
              go_returns
              exact ⟨_, rfl, by rw [HD.out]; exact H6.out.2.1, H6.out.2.2.drewN _, Ge.slice H5.out.2.2.2.2⟩
end Go.Proofs.Ytiabenmgbikllaa.M

-- F6
namespace Go.Proofs.Ytiabenmgbikllaa.M
set_option linter.unusedVariables false
open Go.RowKit Go.Proofs.YtiabenmgbikllaaW.PrintWords Go.Proofs.YtiabenmgbikllaaW.PrintLast Go.Proofs.YtiabenmgbikllaaW.PrintMore Go.Proofs.Ytiabenmgbikllaa.PAll
attribute [local go_sem] max2_int min2_int max_two min_two max_three min_three max_four min_four

theorem bitLenAux_spec : ∀ n x, x < 2 ^ n → x < 2 ^ Lib.bitLenAux n x ∧ (x ≠ 0 → 2 ^ Lib.bitLenAux n x ≤ 2 * x)
  | 0, x, h => by
    have : x = 0 := by simpa using h
    subst this
    simp [Lib.bitLenAux]
  | n + 1, x, h => by
    simp only [Lib.bitLenAux]
    by_cases hx : x = 0
    · simp [hx]
    · rw [if_neg hx]
      obtain ⟨i1, i2⟩ := bitLenAux_spec n (x / 2) (by rw [Nat.pow_succ] at h; omega)
      rw [Nat.add_comm 1, Nat.pow_succ]
      refine ⟨by omega, fun _ => ?_⟩
      by_cases h2 : x / 2 = 0
      · rw [h2] at i1 ⊢
        have e : Lib.bitLenAux n 0 = 0 := by cases n <;> simp [Lib.bitLenAux]
        rw [e]
        omega
      · have := i2 h2
        omega
/-- How many of its bits are read as they are, and the bound of the others. -/
def bB (ft : Int) : Nat := Lib.bitLen (ft - 1).toNat - 8
def bF (ft : Int) : Int := (ft - 1) / 2 ^ bB ft + 1
theorem bB_ok (ft : Int) (h0 : 257 ≤ ft) (h1 : ft ≤ 4294967295) : Lib.bitLen (ft - 1).toNat = bB ft + 8 ∧ 1 ≤ bB ft ∧ bB ft ≤ 24 ∧ 2 ≤ bF ft ∧ bF ft ≤ 256 ∧ (ft - 1) / 2 ^ bB ft = bF ft - 1 := by
  obtain ⟨n, hn⟩ := Int.eq_ofNat_of_zero_le (show 0 ≤ ft - 1 by omega)
  obtain ⟨s1, s2⟩ := bitLenAux_spec 64 n (by omega)
  have s2' := s2 (by omega)
  have hL : Lib.bitLen n = Lib.bitLenAux 64 n := rfl
  rw [← hL] at s1 s2'
  have hle : Lib.bitLen n ≤ 32 := bitLenAux_lt 64 n 32 (by omega)
  have hge : 9 ≤ Lib.bitLen n := by
    by_cases h : 9 ≤ Lib.bitLen n
    · exact h
    · have : 2 ^ Lib.bitLen n ≤ 2 ^ 8 := Nat.pow_le_pow_right (by decide) (by omega)
      omega
  have hb : bB ft = Lib.bitLen n - 8 := by unfold bB; rw [hn]; rfl
  have hp : 0 < 2 ^ bB ft := Nat.two_pow_pos _
  have e : 2 ^ Lib.bitLen n = 256 * 2 ^ bB ft := by
    rw [show Lib.bitLen n = 8 + bB ft from by omega, Nat.pow_add]
  rw [e] at s1 s2'
  have hq1 : n / 2 ^ bB ft < 256 := (Nat.div_lt_iff_lt_mul hp).2 s1
  have hq2 : 1 ≤ n / 2 ^ bB ft := (Nat.le_div_iff_mul_le hp).2 (by omega)
  have hF : bF ft = ((n / 2 ^ bB ft : Nat) : Int) + 1 := by unfold bF; rw [hn]; simp
  refine ⟨by rw [hn]; show Lib.bitLen n = _; omega, by omega, by omega, by omega, by omega, ?_⟩
  rw [hF, hn]; simp
def D.bigV0 (d : D) (ft : Int) : Int := d.choose (bF ft) * 2 ^ bB ft + (d.small (bF ft)).bitsV (bB ft)
/-- What is told of a great number, and the reader behind it. -/
def D.bigV (d : D) (ft : Int) : Int := if ft ≤ d.bigV0 ft then ft - 1 else d.bigV0 ft
def D.bigD (d : D) (ft : Int) : D := if ft ≤ d.bigV0 ft then { (d.small (bF ft)).bits (bB ft) with bad := true } else (d.small (bF ft)).bits (bB ft)
def D.uintV (d : D) (ft : Int) : Int := if ft ≤ 256 then d.choose ft else d.bigV ft
def D.uintD (d : D) (ft : Int) : D := if ft ≤ 256 then d.small ft else d.bigD ft
theorem normL_raw : ∀ (j : Nat) (d : D), (D.normL j d).b = d.b ∧ (D.normL j d).back = d.back ∧ (D.normL j d).window = d.window ∧ (D.normL j d).waiting = d.waiting ∧ (D.normL j d).bad = d.bad
  | 0, d => ⟨rfl, rfl, rfl, rfl, rfl⟩
  | j + 1, d => by
    unfold D.normL
    split
    · exact normL_raw j d.step
    · exact ⟨rfl, rfl, rfl, rfl, rfl⟩
theorem take_raw (d : D) (h : DRaw d) (fl fh ft : Int) : DRaw (d.take fl fh ft) := by
  obtain ⟨a1, a2, a3, a4, _⟩ := normL_raw 3 (d.take0 fl fh ft)
  obtain ⟨h1, h2, h3, h4, h5, h6⟩ := h
  have e1 : (d.take fl fh ft).b = d.b := a1
  have e2 : (d.take fl fh ft).back = d.back := a2
  have e3 : (d.take fl fh ft).window = d.window := a3
  have e4 : (d.take fl fh ft).waiting = d.waiting := a4
  exact ⟨by rw [e4]; exact h1, by rw [e4]; exact h2, by rw [e3]; exact h3, by rw [e3, e4]; exact h4, by rw [e2]; exact h5, by rw [e1, e2]; exact h6⟩
theorem new_raw (b : List Int) : DRaw (D.new b) := by
  obtain ⟨a1, a2, a3, a4, _⟩ := normL_raw 3 (D.first b)
  have e1 : (D.new b).b = b := a1
  have e2 : (D.new b).back = 0 := a2
  have e3 : (D.new b).window = 0 := a3
  have e4 : (D.new b).waiting = 0 := a4
  exact ⟨by rw [e4]; omega, by rw [e4]; omega, by rw [e3]; omega, by rw [e3, e4]; decide, by rw [e2]; omega, by rw [e1, e2]; omega⟩
theorem sym_raw (d : D) (h : DRaw d) (t : List Int) : DRaw (d.sym t) := take_raw d h _ _ _
theorem small_raw (d : D) (h : DRaw d) (ft : Int) : DRaw (d.small ft) := take_raw d h _ _ _
theorem bigV0_ok (d : D) (h : DOk d) (hr : DRaw d) (ft : Int) (h0 : 257 ≤ ft) (h1 : ft ≤ 4294967295) (hc : d.count ≤ 800000000000000000) :
    0 ≤ d.choose (bF ft) ∧ d.choose (bF ft) < 256 ∧ 0 ≤ (d.small (bF ft)).bitsV (bB ft) ∧ (d.small (bF ft)).bitsV (bB ft) < 2 ^ bB ft ∧ (2 : Int) ^ bB ft ≤ 16777216 ∧ (1 : Int) ≤ 2 ^ bB ft ∧ 0 ≤ d.choose (bF ft) * 2 ^ bB ft ∧ d.choose (bF ft) * 2 ^ bB ft ≤ 255 * 16777216 ∧ DOk ((d.small (bF ft)).bits (bB ft)) ∧ DRaw ((d.small (bF ft)).bits (bB ft)) ∧ ((d.small (bF ft)).bits (bB ft)).count ≤ d.count + 48 ∧ ((d.small (bF ft)).bits (bB ft)).b = d.b := by
  obtain ⟨_, b1, b2, f1, f2, _⟩ := bB_ok ft h0 h1
  obtain ⟨a1, a2, a3, a4, a5⟩ := small_ok d h (bF ft) (by omega) (by omega) (by omega)
  obtain ⟨c1, c2, c3, c4, c5, c6⟩ := bits_ok _ a1 (small_raw d hr (bF ft)) (bB ft : Int) (by omega) (by omega) (by omega)
  have hp : (1 : Int) ≤ 2 ^ bB ft := by exact_mod_cast Nat.one_le_two_pow
  have hp2 : (2 : Int) ^ bB ft ≤ 16777216 := by
    have : (2 : Int) ^ bB ft ≤ 2 ^ 24 := by exact_mod_cast Nat.pow_le_pow_right (by decide) b2
    omega
  refine ⟨a4, by omega, c5, by simpa using c6, hp2, hp, Int.mul_nonneg a4 (by omega), ?_, c1, c2, by omega, c4.trans a3⟩
  exact Int.le_trans (Int.mul_le_mul_of_nonneg_right (show d.choose (bF ft) ≤ 255 by omega) (by omega)) (Int.mul_le_mul_of_nonneg_left hp2 (by omega))
end Go.Proofs.Ytiabenmgbikllaa.M

-- F7
namespace Go.Proofs.Ytiabenmgbikllaa.M
set_option linter.unusedVariables false
open Go.RowKit Go.Proofs.YtiabenmgbikllaaW.PrintWords Go.Proofs.YtiabenmgbikllaaW.PrintLast Go.Proofs.YtiabenmgbikllaaW.PrintMore Go.Proofs.Ytiabenmgbikllaa.PAll
attribute [local go_sem] max2_int min2_int max_two min_two max_three min_three max_four min_four

set_option maxHeartbeats 2000000 in
set_option maxRecDepth 100000 in
theorem dbig_calls (w0 w : World) (g : Nat) (d : D) (ft : Int) (h : DecAt w0 w g d) (hd : DOk d) (hr : DRaw d) (f0 : 257 ≤ ft) (f1 : ft ≤ 4294967295) (hk : d.count ≤ 800000000000000000) :
    Calls Try.prog 81 #[.pointer (some ⟨g, 0, none⟩), .int .i64 ft] w fun r w' => r = .returned (.int .i64 (d.bigV ft)) ∧ DecAt w0 w' g (d.bigD ft) ∧ Chg w w' (One g) := by
  obtain ⟨n1, n2, n3, n4, n5, n6⟩ := bB_ok ft f0 f1
  obtain ⟨v1, v2, v3, v4, v5, v6, v7, v8, v9, v10, v11, v12⟩ := bigV0_ok d hd hr ft f0 f1 hk
  have hp := small_place d hd (bF ft) (by omega) (by omega)
  have hs := small_ok d hd (bF ft) (by omega) (by omega) (by omega)
  have HH := Aside0.mk (And.intro h (And.intro hd (And.intro hr (And.intro hp (And.intro hs (small_raw d hr (bF ft)))))))
  have hc1 : (d.small (bF ft)).count ≤ 900000000000000000 := by have := hs.2.1; omega
  clear h hd hr hp hs v9 v10 v11 v12
  have b1 : decide (ft ≤ 1) = false := decide_eq_false (by omega)
  have b2 : decide (4294967295 < ft) = false := decide_eq_false (by omega)
  have b3 : decide (ft ≤ 256) = false := decide_eq_false (by omega)
  have u1 : IntKind.u64.wrap (ft - 1) = ft - 1 := wraps_u64 _ (by omega) (by omega)
  have u2 : IntKind.u64.wrap (bF ft) = bF ft := wraps_u64 _ (by omega) (by omega)
  have u3 : IntKind.u64.wrap (d.choose (bF ft) + 1) = d.choose (bF ft) + 1 := wraps_u64 _ (by omega) (by omega)
  obtain ⟨L, hL⟩ : ∃ L, L = Lib.bitLen (ft - 1).toNat := ⟨_, rfl⟩
  rw [← hL] at n1
  go_enter Try.func81, Try.ntmps81
  go_wp2_with fail

  first
    | go_quiet ((go_at_call 124; exact Calls.quiet_of_same (Try.bits_Len (ft - 1) _ (by omega) (by omega))))
    | (refine (Try.bits_Len (ft - 1) _ (by omega) (by omega)).mono ?_; rintro r w1 ⟨rfl, rfl⟩)
  rw [← hL, n1]
  go_wp2_with fail
  refine (dchoose_calls w0 w1 g d (bF ft) HH.out.1 HH.out.2.1 (by omega) (by omega)).mono ?_
  rintro r w2 ⟨rfl, h2, k2⟩
  have H2 := Aside0.mk (And.intro h2 k2)
  clear h2 k2
  have s1 : IntKind.i64.wrap (d.choose (bF ft) * 2 ^ bB ft) = d.choose (bF ft) * 2 ^ bB ft := by rw [IntKind.wrap_i64]; omega
  have s2 : IntKind.i64.wrap (d.choose (bF ft)) = d.choose (bF ft) := by rw [IntKind.wrap_i64]; omega
  go_wp2_with fail
  refine (dtake_calls w0 w2 g d (d.choose (bF ft)) (d.choose (bF ft) + 1) (bF ft) H2.out.1 HH.out.2.1 HH.out.2.2.2.1 (by omega)).mono ?_
  rintro r w3 ⟨rfl, h3, k3⟩
  have H3 : Aside0 (DecAt w0 w3 g (d.small (bF ft)) ∧ Chg w1 w3 (One g)) := ⟨h3, H2.out.2.trans k3 (Ext.refl _ _)⟩
  clear H2 h3 k3
  go_wp2_with fail
  obtain ⟨V, hV⟩ : ∃ V, V = (d.small (bF ft)).bitsV (bB ft) := ⟨_, rfl⟩
  obtain ⟨X, hX⟩ : ∃ X, X = d.choose (bF ft) * 2 ^ bB ft := ⟨_, rfl⟩
  have h0 : Aside0 (d.bigV0 ft = X + V) := ⟨by unfold D.bigV0; rw [hX, hV]⟩
  have HV := Aside0.mk hV
  rw [← hV] at v3 v4
  rw [← hX] at v7 v8 s1
  have hX' := hX.symm
  have HX := Aside0.mk hX
  clear hV hX
  by_cases hlt : ft ≤ X + V
  · have b4 : decide (ft ≤ X + V) = true := decide_eq_true hlt
    have e1 : Aside0 (d.bigV ft = ft - 1 ∧ d.bigD ft = { (d.small (bF ft)).bits (bB ft) with bad := true }) := ⟨by unfold D.bigV D.bigD; rw [h0.out, if_pos hlt, if_pos hlt]; exact ⟨rfl, rfl⟩⟩
    go_region_with (
      (go_at_call 89
       refine (dbits_calls w0 _ g (d.small (bF ft)) (bB ft : Int) (H3.out.1.chg (S := No) (by repeat (first | exact Chg.refl _ No | apply Chg.drew | apply Chg.drewN)) (fun h => h) (fun _ h => False.elim h)) HH.out.2.2.2.2.1.1 HH.out.2.2.2.2.2 (by omega) (by omega) (by omega)).mono ?_
       rintro r w4 ⟨rfl, h4, k4⟩
       rw [← HV.out]
       have H4 : Aside0 (DecAt w0 w4 g ((d.small (bF ft)).bits (bB ft)) ∧ Chg w1 w4 (One g)) := ⟨h4, H3.out.2.drew.trans k4 (Ext.refl _ _)⟩
       clear h4 k4))
    obtain ⟨⟨A, c, hb, hge, hrd⟩, hB⟩ := H4.out.1
    have c9 := cellS91_9 hb
    have z9 := blk_frozen hb 9
    clear hb hrd hB
    go_wp2_with fail
    go_returns
    refine ⟨by rw [e1.out.1]; rfl, ?_, H4.out.2.setCell (p := ⟨g, 9, none⟩) (.inl rfl) _⟩
    rw [e1.out.2]
    exact ⟨H4.out.1.1.set_9 true, H4.out.1.2.setCell (p := ⟨g, 9, none⟩) hge _⟩
  · have b4 : decide (ft ≤ X + V) = false := decide_eq_false hlt
    have e1 : Aside0 (d.bigV ft = X + V ∧ d.bigD ft = (d.small (bF ft)).bits (bB ft)) := ⟨by unfold D.bigV D.bigD; rw [h0.out, if_neg hlt, if_neg hlt]; exact ⟨rfl, rfl⟩⟩
    go_region_with (
      (go_at_call 89
       refine (dbits_calls w0 _ g (d.small (bF ft)) (bB ft : Int) (H3.out.1.chg (S := No) (by repeat (first | exact Chg.refl _ No | apply Chg.drew | apply Chg.drewN)) (fun h => h) (fun _ h => False.elim h)) HH.out.2.2.2.2.1.1 HH.out.2.2.2.2.2 (by omega) (by omega) (by omega)).mono ?_
       rintro r w4 ⟨rfl, h4, k4⟩
       rw [← HV.out]
       have H4 : Aside0 (DecAt w0 w4 g ((d.small (bF ft)).bits (bB ft)) ∧ Chg w1 w4 (One g)) := ⟨h4, H3.out.2.drew.trans k4 (Ext.refl _ _)⟩
       clear h4 k4))
    go_wp2_with fail
    go_returns
    refine ⟨by rw [e1.out.1]; rfl, ?_, H4.out.2⟩
    rw [e1.out.2]
    exact H4.out.1
end Go.Proofs.Ytiabenmgbikllaa.M

-- F8
namespace Go.Proofs.Ytiabenmgbikllaa.M
set_option linter.unusedVariables false
open Go.RowKit Go.Proofs.YtiabenmgbikllaaW.PrintWords Go.Proofs.YtiabenmgbikllaaW.PrintLast Go.Proofs.YtiabenmgbikllaaW.PrintMore Go.Proofs.Ytiabenmgbikllaa.PAll
attribute [local go_sem] max2_int min2_int max_two min_two max_three min_three max_four min_four

set_option maxHeartbeats 2000000 in
set_option maxRecDepth 100000 in
theorem rbig_calls (w0 w : World) (g : Nat) (d : D) (ft : Int) (h : RefAt w0 w g d) (hd : DOk d) (hr : DRaw d) (f0 : 257 ≤ ft) (f1 : ft ≤ 4294967295) (hk : d.count ≤ 800000000000000000) :
    Calls Try.prog 25 #[.pointer (some ⟨g, 0, none⟩), .int .i64 ft] w fun r w' => r = .returned (.int .i64 (d.bigV ft)) ∧ RefAt w0 w' g (d.bigD ft) ∧ Chg w w' (One g) := by
  obtain ⟨n1, n2, n3, n4, n5, n6⟩ := bB_ok ft f0 f1
  obtain ⟨v1, v2, v3, v4, v5, v6, v7, v8, v9, v10, v11, v12⟩ := bigV0_ok d hd hr ft f0 f1 hk
  have hp := small_place d hd (bF ft) (by omega) (by omega)
  have hs := small_ok d hd (bF ft) (by omega) (by omega) (by omega)
  have HH := Aside0.mk (And.intro h (And.intro hd (And.intro hr (And.intro hp (And.intro hs (small_raw d hr (bF ft)))))))
  have hc1 : (d.small (bF ft)).count ≤ 900000000000000000 := by have := hs.2.1; omega
  clear h hd hr hp hs v9 v10 v11 v12
  have b1 : decide (ft < 1) = false := decide_eq_false (by omega)
  have b1' : (ft == 1) = false := by simp; omega
  have b2 : decide (4294967295 < ft) = false := decide_eq_false (by omega)
  have b3 : decide (ft ≤ 256) = false := decide_eq_false (by omega)
  have u1 : IntKind.u64.wrap (ft - 1) = ft - 1 := wraps_u64 _ (by omega) (by omega)
  have u2 : IntKind.u64.wrap (bF ft) = bF ft := wraps_u64 _ (by omega) (by omega)
  have u3 : IntKind.u64.wrap (d.choose (bF ft) + 1) = d.choose (bF ft) + 1 := wraps_u64 _ (by omega) (by omega)
  obtain ⟨L, hL⟩ : ∃ L, L = Lib.bitLen (ft - 1).toNat := ⟨_, rfl⟩
  rw [← hL] at n1
  go_enter Try.func25, Try.ntmps25
  go_wp2_with fail

  refine (madrigalref1_Len.calls 70 (ft - 1) _ _ (len_f (ft - 1) (by omega) (by omega))).mono ?_
  rintro r w1 ⟨rfl, hd1⟩
  obtain ⟨n0, rfl⟩ := hd1.out
  have hw1 : Aside0 (Chg w (w.drewN n0) (One g)) := ⟨(Chg.refl w _).drewN n0⟩
  rw [← hL, n1]
  have uB : IntKind.u64.wrap (bB ft : Int) = (bB ft : Int) := wraps_u64 _ (by omega) (by omega)
  go_wp2_with fail
  refine (rchoose_calls w0 (w.drewN n0) g d (bF ft) (HH.out.1.chg (S := No) ((Chg.refl w No).drewN n0) (fun h => h) (fun _ h => False.elim h)) HH.out.2.1 (by omega) (by omega)).mono ?_
  rintro r w2 ⟨rfl, h2, k2⟩
  have H2 := Aside0.mk (And.intro h2 k2)
  clear h2 k2
  have s1 : IntKind.i64.wrap (d.choose (bF ft) * 2 ^ bB ft) = d.choose (bF ft) * 2 ^ bB ft := by rw [IntKind.wrap_i64]; omega
  have s2 : IntKind.i64.wrap (d.choose (bF ft)) = d.choose (bF ft) := by rw [IntKind.wrap_i64]; omega
  go_wp2_with fail
  refine (rtake_calls w0 w2 g d (d.choose (bF ft)) (d.choose (bF ft) + 1) (bF ft) H2.out.1 HH.out.2.1 HH.out.2.2.2.1 (by omega)).mono ?_
  rintro r w3 ⟨rfl, h3, k3⟩
  have H3 : Aside0 (RefAt w0 w3 g (d.small (bF ft)) ∧ Chg (w.drewN n0) w3 (One g)) := ⟨h3, H2.out.2.trans k3 (Ext.refl _ _)⟩
  clear H2 h3 k3
  go_wp2_with fail
  obtain ⟨V, hV⟩ : ∃ V, V = (d.small (bF ft)).bitsV (bB ft) := ⟨_, rfl⟩
  obtain ⟨X, hX⟩ : ∃ X, X = d.choose (bF ft) * 2 ^ bB ft := ⟨_, rfl⟩
  have h0 : Aside0 (d.bigV0 ft = X + V) := ⟨by unfold D.bigV0; rw [hX, hV]⟩
  have HV := Aside0.mk hV
  rw [← hV] at v3 v4
  rw [← hX] at v7 v8 s1
  have hX' := hX.symm
  have HX := Aside0.mk hX
  have hor : bits .or .i64 X V = X + V := by
    rw [hX]
    exact bits_join .i64 63 (by decide) (fun n a b => by rw [IntKind.wrap_i64]; omega) (bB ft) _ V (by rw [← hX]; omega) (Int.mul_emod_left _ _) (by rw [← hX]; omega) v3 v4 (by omega)
  clear hV hX
  by_cases hlt : ft ≤ X + V
  · have b4 : decide (ft ≤ X + V) = true := decide_eq_true hlt
    have e1 : Aside0 (d.bigV ft = ft - 1 ∧ d.bigD ft = { (d.small (bF ft)).bits (bB ft) with bad := true }) := ⟨by unfold D.bigV D.bigD; rw [h0.out, if_pos hlt, if_pos hlt]; exact ⟨rfl, rfl⟩⟩
    go_wp2_with (
      (go_at_call 78
       refine (rbits_calls w0 _ g (d.small (bF ft)) (bB ft : Int) (H3.out.1.chg (S := No) (by repeat (first | exact Chg.refl _ No | apply Chg.drew | apply Chg.drewN)) (fun h => h) (fun _ h => False.elim h)) HH.out.2.2.2.2.1.1 HH.out.2.2.2.2.2 (by omega) (by omega) (by omega)).mono ?_
       rintro r w4 ⟨rfl, h4, k4⟩
       rw [← HV.out]
       have H4 : Aside0 (RefAt w0 w4 g ((d.small (bF ft)).bits (bB ft)) ∧ Chg (w.drewN n0) w4 (One g)) := ⟨h4, H3.out.2.trans k4 (Ext.refl _ _)⟩
       clear h4 k4
       obtain ⟨e4, H5⟩ : ∃ e4, Aside0 (RefE w0 w4 g ((d.small (bF ft)).bits (bB ft)) e4) := H4.out.1.elim fun e h => ⟨e, ⟨h⟩⟩
       obtain ⟨⟨A, c, hb, hge, hrd⟩, hB⟩ := H5.out
       have c9 := cellS95_9 hb
       have z9 := blk_frozen hb 9
       clear hb hrd hB))
    go_wp2_with fail
    go_returns
    refine ⟨by rw [e1.out.1]; rfl, ?_, (hw1.out.trans H4.out.2 (Ext.refl _ _)).setCell (p := ⟨g, 9, none⟩) (.inl rfl) _⟩
    rw [e1.out.2]
    exact ⟨e4, H5.out.1.set_9 true, H5.out.2.setCell (p := ⟨g, 9, none⟩) hge _⟩
  · have b4 : decide (ft ≤ X + V) = false := decide_eq_false hlt
    have e1 : Aside0 (d.bigV ft = X + V ∧ d.bigD ft = (d.small (bF ft)).bits (bB ft)) := ⟨by unfold D.bigV D.bigD; rw [h0.out, if_neg hlt, if_neg hlt]; exact ⟨rfl, rfl⟩⟩
    go_wp2_with (
      (go_at_call 78
       refine (rbits_calls w0 _ g (d.small (bF ft)) (bB ft : Int) (H3.out.1.chg (S := No) (by repeat (first | exact Chg.refl _ No | apply Chg.drew | apply Chg.drewN)) (fun h => h) (fun _ h => False.elim h)) HH.out.2.2.2.2.1.1 HH.out.2.2.2.2.2 (by omega) (by omega) (by omega)).mono ?_
       rintro r w4 ⟨rfl, h4, k4⟩
       rw [← HV.out]
       have H4 : Aside0 (RefAt w0 w4 g ((d.small (bF ft)).bits (bB ft)) ∧ Chg (w.drewN n0) w4 (One g)) := ⟨h4, H3.out.2.trans k4 (Ext.refl _ _)⟩
       clear h4 k4))
    go_wp2_with fail
    go_returns
    refine ⟨by rw [e1.out.1]; rfl, ?_, hw1.out.trans H4.out.2 (Ext.refl _ _)⟩
    rw [e1.out.2]
    exact H4.out.1
end Go.Proofs.Ytiabenmgbikllaa.M

-- F9
namespace Go.Proofs.Ytiabenmgbikllaa.M
set_option linter.unusedVariables false
open Go.RowKit Go.Proofs.YtiabenmgbikllaaW.PrintWords Go.Proofs.YtiabenmgbikllaaW.PrintLast Go.Proofs.YtiabenmgbikllaaW.PrintMore Go.Proofs.Ytiabenmgbikllaa.PAll
attribute [local go_sem] max2_int min2_int max_two min_two max_three min_three max_four min_four

theorem uint_ok (d : D) (h : DOk d) (hr : DRaw d) (ft : Int) (f0 : 2 ≤ ft) (f1 : ft ≤ 4294967295) (hk : d.count ≤ 800000000000000000) : DOk (d.uintD ft) ∧ (d.uintD ft).count ≤ d.count + 48 ∧ (d.uintD ft).b = d.b ∧ 0 ≤ d.uintV ft ∧ d.uintV ft < ft ∧ DRaw (d.uintD ft) := by
  by_cases hs : ft ≤ 256
  · obtain ⟨a1, a2, a3, a4, a5⟩ := small_ok d h ft (by omega) (by omega) (by omega)
    have e1 : d.uintV ft = d.choose ft := if_pos hs
    have e2 : d.uintD ft = d.small ft := if_pos hs
    rw [e1, e2]
    exact ⟨a1, by omega, a3, a4, a5, small_raw d hr ft⟩
  · obtain ⟨v1, v2, v3, v4, v5, v6, v7, v8, v9, v10, v11, v12⟩ := bigV0_ok d h hr ft (by omega) f1 hk
    have e1 : d.uintV ft = d.bigV ft := if_neg hs
    have e2 : d.uintD ft = d.bigD ft := if_neg hs
    have e0 : d.bigV0 ft = d.choose (bF ft) * 2 ^ bB ft + (d.small (bF ft)).bitsV (bB ft) := rfl
    rw [e1, e2]
    unfold D.bigV D.bigD
    split
    · obtain ⟨⟨q1, q2, q3, q4, q5, q6, q7, q8⟩, p1, p2, p3, p4, p5, p6⟩ := v9
      obtain ⟨o1, o2, o3, o4, o5, o6⟩ := v10
      exact ⟨⟨⟨q1, q2, q3, q4, q5, q6, q7, q8⟩, p1, p2, p3, p4, p5, p6⟩, v11, v12, by omega, by omega, ⟨o1, o2, o3, o4, o5, o6⟩⟩
    · exact ⟨v9, v11, v12, by omega, by omega, v10⟩
theorem duint_calls (w0 w : World) (g : Nat) (d : D) (ft : Int) (h : DecAt w0 w g d) (hd : DOk d) (hr : DRaw d) (f0 : 2 ≤ ft) (f1 : ft ≤ 4294967295) (hk : d.count ≤ 800000000000000000) :
    Calls Try.prog 81 #[.pointer (some ⟨g, 0, none⟩), .int .i64 ft] w fun r w' => r = .returned (.int .i64 (d.uintV ft)) ∧ DecAt w0 w' g (d.uintD ft) ∧ Chg w w' (One g) := by
  by_cases hs : ft ≤ 256
  · have e1 : d.uintV ft = d.choose ft := if_pos hs
    have e2 : d.uintD ft = d.small ft := if_pos hs
    rw [e1, e2]
    exact dsmall_calls w0 w g d ft h hd f0 hs (by omega)
  · have e1 : d.uintV ft = d.bigV ft := if_neg hs
    have e2 : d.uintD ft = d.bigD ft := if_neg hs
    rw [e1, e2]
    exact dbig_calls w0 w g d ft h hd hr (by omega) f1 hk
theorem ruint_calls (w0 w : World) (g : Nat) (d : D) (ft : Int) (h : RefAt w0 w g d) (hd : DOk d) (hr : DRaw d) (f0 : 2 ≤ ft) (f1 : ft ≤ 4294967295) (hk : d.count ≤ 800000000000000000) :
    Calls Try.prog 25 #[.pointer (some ⟨g, 0, none⟩), .int .i64 ft] w fun r w' => r = .returned (.int .i64 (d.uintV ft)) ∧ RefAt w0 w' g (d.uintD ft) ∧ Chg w w' (One g) := by
  by_cases hs : ft ≤ 256
  · have e1 : d.uintV ft = d.choose ft := if_pos hs
    have e2 : d.uintD ft = d.small ft := if_pos hs
    rw [e1, e2]
    exact rsmall_calls w0 w g d ft h hd f0 hs (by omega)
  · have e1 : d.uintV ft = d.bigV ft := if_neg hs
    have e2 : d.uintD ft = d.bigD ft := if_neg hs
    rw [e1, e2]
    exact rbig_calls w0 w g d ft h hd hr (by omega) f1 hk
end Go.Proofs.Ytiabenmgbikllaa.M

-- FA
namespace Go.Proofs.Ytiabenmgbikllaa.M
set_option linter.unusedVariables false
open Go.RowKit Go.Proofs.YtiabenmgbikllaaW.PrintWords Go.Proofs.YtiabenmgbikllaaW.PrintLast Go.Proofs.YtiabenmgbikllaaW.PrintMore Go.Proofs.Ytiabenmgbikllaa.PAll
attribute [local go_sem] max2_int min2_int max_two min_two max_three min_three max_four min_four

set_option maxHeartbeats 1000000 in
set_option maxRecDepth 100000 in
theorem rnewB_calls (w0 w : World) (A : Option Addr) (c : Nat) (b : List Int) (hB : Below w0.heap.size w0 w) (h : ReadsInt w0 .u8 A b.length b) (hb : Bytes b) (hn : b.length ≤ 140737488351232) :
    Calls Try.prog 22 #[.slice A b.length c] w fun r w' => r = .returned (.pointer (some ⟨w.heap.size, 0, none⟩)) ∧ RefAt w0 w' w.heap.size (D.new b) ∧ Chg w w' No := by
  have HR := Aside0.mk (And.intro h hB)
  clear h hB
  have HZ := Aside0.mk (zero_base b hb (by omega))
  have HF := Aside0.mk (first_base b hb (by omega))
  have HN := Aside0.mk (new_ok b hb (by omega))
  obtain ⟨x0, x1⟩ := (D.zero b).nextV_range HZ.out
  clear hb
  go_enter Try.func22, Try.ntmps22
  go_wp2_with fail
  have HA : Aside0 (RefE w0 (w.alloc (.cells #[.slice A b.length c, .int .u64 128, .int .u64 0, .int .i64 0, .int .i64 0, .int .i64 0, .int .u64 0, .int .i64 0, .int .i64 9, .bool false, .int .u64 0] 95)) w.heap.size (D.zero b) 0) :=
    ⟨⟨IsS95.new w0 w A c b 128 0 0 0 0 0 0 9 false 0 HR.out.2 (Kd.C_of_reads (d := 0) (readsInt_of.1 HR.out.1)), below_alloc HR.out.2 _⟩⟩
  refine (madrigalref3_Dec_next.calls w.heap.size b 128 0 0 0 0 0 0 9 false 0 _ _ _ _ _ _ _ _ _ _ _ w0 _ HA.out.1 HA.out.2 (next3_f (D.zero b) HZ.out 128 9 0)).mono ?_
  rintro r w2 ⟨rfl, h1, h2, h3⟩
  have h1' : RefE w0 w2 w.heap.size { D.zero b with front := (D.zero b).nextF } 0 := ⟨h1, h2⟩
  obtain ⟨A2, c2, hb2, _, hr2⟩ := h1
  have q3 := cellS95_3 hb2
  have q2 := cellS95_2 hb2
  have z3 := blk_frozen hb2 3
  have z2 := blk_frozen hb2 2
  have H2 := Aside0.mk (And.intro h1' h3)
  clear h1' h2 h3 hb2 hr2
  go_wp2_with fail
  have e1 : IntKind.u64.wrap (127 - (D.zero b).nextV / 2) = 127 - (D.zero b).nextV / 2 := wraps_u64 _ (by omega) (by omega)
  have H3 : Aside0 (RefE w0 ((w2.setCell ⟨w.heap.size, 3, none⟩ (.int .i64 (D.zero b).nextV)).setCell ⟨w.heap.size, 2, none⟩ (.int .u64 (127 - (D.zero b).nextV / 2))) w.heap.size (D.first b) 0) := by
    obtain ⟨⟨k1, k2⟩, k3⟩ := H2.out
    exact ⟨⟨(k1.set_3 _).set_2 _, (k2.setCell HR.out.2.size _).setCell HR.out.2.size _⟩⟩
  first | rw [e1] | skip
  refine (madrigalref3_Dec_on.calls 4 w.heap.size b _ _ _ _ _ _ _ _ _ _ _ _ _ _ _ _ _ _ _ _ w0 _ H3.out.1 H3.out.2 (norm3_l 0 3 4 (D.first b) HF.out ?_ ?_ ?_ ?_ ?_ ?_ ?_)).mono ?_
  · show (9 : Int) + 8 * 3 ≤ _; omega
  · show (1 : Int) ≤ 128; omega
  · show (128 : Int) ≤ _; omega
  · show 0 ≤ 127 - (D.zero b).nextV / 2; omega
  · show 127 - (D.zero b).nextV / 2 < _; omega
  · show (8388608 : Int) < 128 * 256 ^ 3; omega
  · omega
  rintro r w3 ⟨rfl, h1, h2, h3⟩
  have H4 : Aside0 (RefAt w0 w3 w.heap.size (D.new b) ∧ Chg w w3 No) :=
    ⟨⟨_, by rw [HN.out.2.2]; exact h1, h2⟩, by
      have hx : Ext w No (One w.heap.size) := Ext.new (fun k hk => by rw [show k = w.heap.size from hk]; exact Nat.le_refl _)
      have x1 := ((Chg.refl w No).alloc _).trans (Chg.of_keep HA.out.2 H2.out.1.2 H2.out.2) hx
      have x2 := (x1.setCell (p := ⟨w.heap.size, 3, none⟩) (.inr (Nat.le_refl _)) (.int .i64 (D.zero b).nextV)).setCell (p := ⟨w.heap.size, 2, none⟩) (.inr (Nat.le_refl _)) (.int .u64 (127 - (D.zero b).nextV / 2))
      exact x2.trans (Chg.of_keep H3.out.2 h2 h3) hx⟩
  clear h1 h2 h3
  go_wp2_with fail
  go_returns
  exact ⟨rfl, H4.out⟩
end Go.Proofs.Ytiabenmgbikllaa.M

-- R0
namespace Go.Proofs.Ytiabenmgbikllaa.M
set_option linter.unusedVariables false
open Go.RowKit Go.Proofs.YtiabenmgbikllaaW.PrintWords Go.Proofs.YtiabenmgbikllaaW.PrintLast Go.Proofs.YtiabenmgbikllaaW.PrintMore Go.Proofs.Ytiabenmgbikllaa.PAll

theorem p256 : ∀ n : Nat, (0 : Int) < 256 ^ n
  | 0 => by decide
  | n + 1 => by rw [Int.pow_succ]; have := p256 n; omega
theorem p2 (n : Nat) : (0 : Int) < 2 ^ n := by exact_mod_cast Nat.two_pow_pos n
/-- The number that bytes are, the first the highest. -/
def num : List Int → Int
  | [] => 0
  | x :: l => x * 256 ^ l.length + num l
theorem num_append (a b : List Int) : num (a ++ b) = num a * 256 ^ b.length + num b := by
  induction a with
  | nil => simp [num]
  | cons x a ih => simp only [List.cons_append, num, ih, List.length_append, Int.pow_add, Int.add_mul, Int.mul_assoc, Int.add_assoc]
theorem num_range (l : List Int) (h : Bytes l) : 0 ≤ num l ∧ num l < 256 ^ l.length := by
  induction l with
  | nil => simp [num]
  | cons x l ih =>
    obtain ⟨i0, i1⟩ := ih (fun y hy => h y (List.mem_cons_of_mem _ hy))
    have hx := h x List.mem_cons_self
    have hp := p256 l.length
    have h1 : x * 256 ^ l.length ≤ 255 * 256 ^ l.length := Int.mul_le_mul_of_nonneg_right (by omega) (by omega)
    have h2 : 0 ≤ x * 256 ^ l.length := Int.mul_nonneg hx.1 (by omega)
    simp only [num, List.length_cons, Int.pow_succ]
    omega
theorem num_set (l : List Int) : ∀ (i : Nat) (y : Int), i < l.length → num (l.set i y) = num l + (y - rd l i) * 256 ^ (l.length - 1 - i) := by
  induction l with
  | nil => intro i y h; simp at h
  | cons x l ih =>
    intro i y h
    cases i with
    | zero =>
      have e : rd (x :: l) ((0 : Nat) : Int) = x := by simp [rd]
      rw [e]
      simp only [List.set_cons_zero, num, List.length_cons, Int.sub_mul]
      rw [show l.length + 1 - 1 - 0 = l.length by omega]
      omega
    | succ i =>
      have := ih i y (by simpa using h)
      have e : rd (x :: l) ((i + 1 : Nat) : Int) = rd l (i : Int) := by simp [rd]
      rw [e]
      simp only [List.set_cons_succ, num, List.length_set, List.length_cons]
      rw [this, show l.length + 1 - 1 - (i + 1) = l.length - 1 - i by omega]
      omega
theorem rd_eq (l : List Int) (i : Nat) : l.getD i 0 = rd l i := by simp [rd]
theorem incN_num (k : Nat) : ∀ (l : List Int) (c : Int), 0 ≤ c → Bytes l → k ≤ l.length → Bytes (incN l c k) ∧ ∃ j : Int, num (incN l c k) = num l + c * 256 ^ (l.length - k) - j * 256 ^ l.length := by
  induction k with
  | zero => intro l c hc hb hk; exact ⟨hb, c, by rw [Nat.sub_zero]; show num l = _; omega⟩
  | succ k ih =>
    intro l c hc hb hk
    by_cases h : 0 < c
    · have hx := hb.at_ (k : Int) (by omega) (by omega)
      rw [incN_go l c k h]
      obtain ⟨b1, j, hj⟩ := ih (l.set k ((c + rd l k) % 256)) ((c + rd l k) / 256) (by omega) (hb.set k _ (by omega)) (by rw [List.length_set]; omega)
      refine ⟨b1, j, ?_⟩
      rw [hj, num_set l k _ (by omega), List.length_set, show l.length - k = (l.length - (k + 1)) + 1 by omega, show l.length - 1 - k = l.length - (k + 1) by omega, Int.pow_succ]
      generalize (256 : Int) ^ (l.length - (k + 1)) = P
      generalize (256 : Int) ^ l.length = Q
      have e1 : (c + rd l k) / 256 * (P * 256) = ((c + rd l k) / 256 * 256) * P := by rw [Int.mul_comm P 256, Int.mul_assoc]
      have e2 : ((c + rd l k) % 256 - rd l k) * P + ((c + rd l k) / 256 * 256) * P = c * P := by
        rw [← Int.add_mul]; congr 1; omega
      omega
    · rw [incN_stop l c _ h]
      exact ⟨hb, 0, by rw [show c = 0 by omega]; simp⟩
theorem incN_fit (k : Nat) (l : List Int) (c : Int) (hc : 0 ≤ c) (hb : Bytes l) (hk : k ≤ l.length) (hf : num l + c * 256 ^ (l.length - k) < 256 ^ l.length) : Bytes (incN l c k) ∧ num (incN l c k) = num l + c * 256 ^ (l.length - k) := by
  obtain ⟨b1, j, hj⟩ := incN_num k l c hc hb hk
  obtain ⟨n0, n1⟩ := num_range _ b1
  obtain ⟨m0, m1⟩ := num_range l hb
  rw [incN_length] at n1
  have hP := p256 l.length
  have hM : 0 ≤ c * 256 ^ (l.length - k) := Int.mul_nonneg hc (by have := p256 (l.length - k); omega)
  refine ⟨b1, ?_⟩
  have hj0 : j = 0 := by
    have h1 : ¬ 1 ≤ j := fun h => by
      have : 1 * 256 ^ l.length ≤ j * 256 ^ l.length := Int.mul_le_mul_of_nonneg_right h (by omega)
      omega
    have h2 : ¬ j ≤ -1 := fun h => by
      have : j * 256 ^ l.length ≤ (-1) * 256 ^ l.length := Int.mul_le_mul_of_nonneg_right h (by omega)
      omega
    omega
  rw [hj, hj0]; simp
theorem carryN_inc (k : Nat) : ∀ (l : List Int), Bytes l → k ≤ l.length → carryN l k = incN l 1 k := by
  induction k with
  | zero => intro l _ _; rfl
  | succ k ih =>
    intro l hb hk
    have hx := hb.at_ (k : Int) (by omega) (by omega)
    rw [incN_go l 1 k (by omega)]
    by_cases h : (rd l k + 1) % 256 = 0
    · rw [carry_next l k h, show (1 + rd l k) % 256 = 0 by omega, show (1 + rd l k) / 256 = 1 by omega]
      exact ih _ (hb.set k 0 (by omega)) (by rw [List.length_set]; omega)
    · rw [carry_stop l k h, show (1 + rd l k) / 256 = 0 by omega, incN_stop _ 0 _ (by omega), Int.add_comm]
theorem carry_num (l : List Int) (hb : Bytes l) (hf : num l + 1 < 256 ^ l.length) : Bytes (carryN l l.length) ∧ num (carryN l l.length) = num l + 1 := by
  rw [carryN_inc _ l hb (Nat.le_refl _)]
  have := incN_fit l.length l 1 (by omega) hb (Nat.le_refl _) (by simpa using hf)
  simpa using this
theorem cmpL_num : ∀ (a b : List Int), Bytes a → Bytes b → a.length = b.length → (cmpL a b < 0 ↔ num a < num b)
  | [], [], _, _, _ => by simp [cmpL, num]
  | [], _ :: _, _, _, h => by simp at h
  | _ :: _, [], _, _, h => by simp at h
  | x :: a, y :: b, ha, hb, hl => by
    have hl' : a.length = b.length := by simpa using hl
    have ha' : Bytes a := fun z hz => ha z (List.mem_cons_of_mem _ hz)
    have hb' : Bytes b := fun z hz => hb z (List.mem_cons_of_mem _ hz)
    have ih := cmpL_num a b ha' hb' hl'
    obtain ⟨a0, a1⟩ := num_range a ha'
    obtain ⟨b0, b1⟩ := num_range b hb'
    simp only [cmpL, num]
    rw [hl'] at a1 ⊢
    have hP := p256 b.length
    generalize (256 : Int) ^ b.length = P at *
    by_cases h1 : x < y
    · rw [if_pos h1]
      have : (x + 1) * P ≤ y * P := Int.mul_le_mul_of_nonneg_right (by omega) (by omega)
      rw [Int.add_mul] at this
      constructor
      · intro _; omega
      · intro _; decide
    · rw [if_neg h1]
      by_cases h2 : x > y
      · rw [if_pos h2]
        have : (y + 1) * P ≤ x * P := Int.mul_le_mul_of_nonneg_right (by omega) (by omega)
        rw [Int.add_mul] at this
        constructor
        · intro h; exact absurd h (by decide)
        · intro h; omega
      · rw [if_neg h2, ih, show x = y by omega]
        omega
theorem increase_fit (l : List Int) (p : Nat) (hb : Bytes l) (hp : p / 8 ≤ l.length) (hf : num l + 2 ^ p < 256 ^ l.length) : Bytes (increase l p) ∧ num (increase l p) = num l + 2 ^ p := by
  have e : (2 : Int) ^ (p % 8) * 256 ^ (l.length - (l.length - p / 8)) = 2 ^ p := by
    rw [show l.length - (l.length - p / 8) = p / 8 by omega, show (256 : Int) = 2 ^ 8 by decide, ← Int.pow_mul, ← Int.pow_add]
    congr 1; omega
  have := incN_fit (l.length - p / 8) l (2 ^ (p % 8)) (by have := p2 (p % 8); omega) hb (by omega) (by rw [e]; exact hf)
  rw [e] at this
  exact this
theorem increase_length (l : List Int) (p : Nat) : (increase l p).length = l.length := incN_length _ _ _
/-- A byte of a number. -/
theorem num_byte (l : List Int) (hb : Bytes l) : ∀ q : Nat, q < l.length → rd l ((l.length - 1 - q : Nat) : Int) = num l / 256 ^ q % 256 := by
  induction l with
  | nil => intro q h; simp at h
  | cons x l ih =>
    intro q hq
    have hb' : Bytes l := fun z hz => hb z (List.mem_cons_of_mem _ hz)
    obtain ⟨n0, n1⟩ := num_range l hb'
    have hx := hb x List.mem_cons_self
    simp only [List.length_cons] at hq ⊢
    simp only [num]
    by_cases h : q = l.length
    · subst h
      rw [show l.length + 1 - 1 - l.length = 0 by omega]
      have e : rd (x :: l) ((0 : Nat) : Int) = x := by simp [rd]
      rw [e, Int.add_comm, Int.add_mul_ediv_right _ _ (by have := p256 l.length; omega), Int.ediv_eq_zero_of_lt n0 n1]
      omega
    · rw [show l.length + 1 - 1 - q = (l.length - 1 - q) + 1 by omega]
      have e : rd (x :: l) (((l.length - 1 - q) + 1 : Nat) : Int) = rd l ((l.length - 1 - q : Nat) : Int) := by simp [rd]
      rw [e, ih hb' q (by omega)]
      have e2 : (256 : Int) ^ l.length = 256 ^ (l.length - q - 1) * 256 * 256 ^ q := by
        rw [← Int.pow_succ, ← Int.pow_add]; congr 1; omega
      rw [e2, ← Int.mul_assoc, Int.add_comm, Int.add_mul_ediv_right _ _ (by have := p256 q; omega), ← Int.mul_assoc, Int.add_mul_emod_self_right]
/-- The first p bytes, noughts behind them. -/
def pre (b : List Int) : Nat → Int
  | 0 => 0
  | p + 1 => 256 * pre b p + b.getD p 0
theorem pre_take (b : List Int) : ∀ p, p ≤ b.length → pre b p = num (b.take p)
  | 0, _ => by simp [pre, num]
  | p + 1, h => by
    rw [List.take_succ_eq_append_getElem (by omega), num_append]
    simp only [pre, num, List.length_cons, List.length_nil, pre_take b p (by omega)]
    have : b.getD p 0 = b[p] := by simp [show p < b.length by omega]
    rw [this]; simp; omega
theorem pre_far (b : List Int) : ∀ k, pre b (b.length + k) = num b * 256 ^ k
  | 0 => by rw [Nat.add_zero, pre_take b _ (Nat.le_refl _)]; simp
  | k + 1 => by
    show 256 * pre b (b.length + k) + b.getD (b.length + k) 0 = _
    rw [pre_far b k, Int.pow_succ]
    have : b.getD (b.length + k) 0 = 0 := by simp [List.getD]
    rw [this, Int.add_zero, Int.mul_left_comm, Int.mul_comm 256 (256 ^ k)]
theorem getD_range (b : List Int) (hb : Bytes b) (p : Nat) : 0 ≤ b.getD p 0 ∧ b.getD p 0 < 256 := by
  by_cases h : p < b.length
  · have : b.getD p 0 = b[p] := by simp [h]
    rw [this]; exact hb _ (List.getElem_mem _)
  · have : b.getD p 0 = 0 := by simp [List.getD, show b.length ≤ p by omega]
    rw [this]; omega
theorem pre_div (b : List Int) (hb : Bytes b) (p : Nat) : ∀ k, pre b (p + k) / 256 ^ k = pre b p
  | 0 => by simp
  | k + 1 => by
    show (256 * pre b (p + k) + b.getD (p + k) 0) / _ = _
    have hr := getD_range b hb (p + k)
    rw [Int.pow_succ, Int.mul_comm (256 ^ k) 256, ← Int.ediv_ediv_of_nonneg (by omega)]
    rw [show (256 * pre b (p + k) + b.getD (p + k) 0) / 256 = pre b (p + k) by omega]
    exact pre_div b hb p k
theorem pre_num (b : List Int) (hb : Bytes b) (p : Nat) (h : p ≤ b.length) : pre b p = num b / 256 ^ (b.length - p) := by
  rw [← pre_div b hb p (b.length - p), show p + (b.length - p) = b.length + 0 by omega, pre_far]
  simp
end Go.Proofs.Ytiabenmgbikllaa.M

-- R1
namespace Go.Proofs.Ytiabenmgbikllaa.M
set_option linter.unusedVariables false
open Go.RowKit Go.Proofs.YtiabenmgbikllaaW.PrintWords Go.Proofs.YtiabenmgbikllaaW.PrintLast Go.Proofs.YtiabenmgbikllaaW.PrintMore Go.Proofs.Ytiabenmgbikllaa.PAll

/-- The interval's lower end. -/
def E.low (e : E) : Int := num e.told * 2147483648 + e.val
structure EW (e : E) : Prop where
  tb : Bytes e.told
  top : e.low + e.rng ≤ 2147483648 * 256 ^ e.told.length
/-- The code that bytes are, as far as the writer told. -/
def X (b : List Int) (e : E) : Int := pre b (e.told.length + 4) / 2
def In (b : List Int) (e : E) : Prop := e.low ≤ X b e ∧ X b e < e.low + e.rng
/-- One round of the writer. -/
def E.step (e : E) : E := { e with told := e.told ++ [e.val / 8388608 % 256], val := e.val * 256 % 2147483648, rng := e.rng * 256, count := e.count + 8 }
theorem E.step_low (e : E) (v0 : 0 ≤ e.val) (v1 : e.val < 2147483648) : e.step.low = e.low * 256 := by
  show num (e.told ++ [e.val / 8388608 % 256]) * 2147483648 + e.val * 256 % 2147483648 = (num e.told * 2147483648 + e.val) * 256
  rw [num_append]
  simp only [num, List.length_cons, List.length_nil]
  omega
theorem E.step_len (e : E) : e.step.told.length = e.told.length + 1 := by simp [E.step]
theorem E.step_ew (e : E) (v0 : 0 ≤ e.val) (v1 : e.val < 2147483648) (h : EW e) : EW e.step := by
  refine ⟨h.tb.app (fun x hx => by simp at hx; omega), ?_⟩
  rw [E.step_low e v0 v1, E.step_len, Int.pow_succ, ← Int.mul_assoc]
  show e.low * 256 + e.rng * 256 ≤ _
  rw [← Int.add_mul]
  exact Int.mul_le_mul_of_nonneg_right h.top (by omega)
theorem X_step (b : List Int) (hb : Bytes b) (e : E) : X b e.step / 256 = X b e := by
  unfold X
  rw [E.step_len]
  show (256 * pre b (e.told.length + 4) + b.getD (e.told.length + 4) 0) / 2 / 256 = _
  have := getD_range b hb (e.told.length + 4)
  omega
theorem in_step (b : List Int) (hb : Bytes b) (e : E) (v0 : 0 ≤ e.val) (v1 : e.val < 2147483648) : In b e.step ↔ In b e := by
  have hx := X_step b hb e
  unfold In
  rw [E.step_low e v0 v1]
  have er : e.step.rng = e.rng * 256 := rfl
  rw [er]
  constructor <;> intro h <;> omega
/-- How many rounds there are. -/
def steps : Nat → Int → Nat
  | 0, _ => 0
  | k + 1, r => if r ≤ 8388608 then steps k (r * 256) + 1 else 0
theorem normL_step (k : Nat) (e : E) : normL (k + 1) e = if e.rng ≤ 8388608 then normL k e.step else e := rfl
/-- All that is kept while the writer goes on. -/
structure Went (e e' : E) (s : Nat) : Prop where
  low : e'.low = e.low * 256 ^ s
  rng : e'.rng = e.rng * 256 ^ s
  len : e'.told.length = e.told.length + s
  ew : EW e → EW e'
  v0 : 0 ≤ e'.val
  v1 : e'.val < 2147483648
  cnt : e'.count = e.count + 8 * s
  raw : e'.raw = e.raw
  rb : e'.rawBits = e.rawBits
  inn : ∀ b, Bytes b → (In b e' ↔ In b e)
theorem normL_went : ∀ (k : Nat) (e : E), 0 ≤ e.val → e.val < 2147483648 → Went e (normL k e) (steps k e.rng)
  | 0, e, v0, v1 => ⟨by simp [normL, steps], by simp [normL, steps], by simp [normL, steps], fun h => h, v0, v1, by simp [normL, steps], rfl, rfl, fun b hb => Iff.rfl⟩
  | k + 1, e, v0, v1 => by
    rw [normL_step]
    unfold steps
    by_cases h : e.rng ≤ 8388608
    · rw [if_pos h, if_pos h]
      have hv : 0 ≤ e.step.val ∧ e.step.val < 2147483648 := by
        show 0 ≤ e.val * 256 % 2147483648 ∧ e.val * 256 % 2147483648 < 2147483648
        omega
      obtain ⟨a1, a2, a3, a4, a5, a6, a7, a8, a9, a10⟩ := normL_went k e.step hv.1 hv.2
      have er : e.step.rng = e.rng * 256 := rfl
      have ec : e.step.count = e.count + 8 := rfl
      rw [er] at a1 a2 a3 a7
      refine ⟨?_, ?_, ?_, fun hw => a4 (E.step_ew e v0 v1 hw), a5, a6, by rw [a7, ec]; omega, a8, a9, fun b hb => (a10 b hb).trans (in_step b hb e v0 v1)⟩
      · rw [a1, E.step_low e v0 v1, Int.mul_assoc, ← Int.pow_succ']
      · rw [a2, Int.mul_assoc, ← Int.pow_succ']
      · rw [a3, E.step_len]; omega
    · rw [if_neg h, if_neg h]
      exact ⟨by simp, by simp, by simp, fun h => h, v0, v1, by simp, rfl, rfl, fun b hb => Iff.rfl⟩
theorem steps_le : ∀ (k : Nat) (r : Int), steps k r ≤ k
  | 0, _ => Nat.le_refl _
  | k + 1, r => by
    unfold steps
    have := steps_le k (r * 256)
    split <;> omega
theorem steps_big : ∀ (k : Nat) (r : Int), r ≤ 2147483648 → 8388608 < r * 256 ^ k → 8388608 < r * 256 ^ steps k r ∧ r * 256 ^ steps k r ≤ 2147483648
  | 0, r, h, h1 => by simpa [steps] using ⟨by simpa using h1, h⟩
  | k + 1, r, h, h1 => by
    unfold steps
    by_cases hr : r ≤ 8388608
    · rw [if_pos hr]
      have := steps_big k (r * 256) (by omega) (by rw [Int.mul_assoc, ← Int.pow_succ']; exact h1)
      rw [Int.mul_assoc, ← Int.pow_succ'] at this
      exact this
    · rw [if_neg hr]
      simp; omega
/-- The carry. -/
theorem norm0_went (e : E) (hw : Bytes e.told) (ht : e.low + e.rng ≤ 2147483648 * 256 ^ e.told.length) (hr : 1 ≤ e.rng) (v0 : 0 ≤ e.val) (v1 : e.val < 4294967296) : Went e (norm0 e) 0 ∧ EW (norm0 e) := by
  unfold norm0
  by_cases h : e.val ≤ 2147483647
  · rw [if_pos h]
    exact ⟨⟨by simp, by simp, by simp, fun h => h, v0, by omega, by simp, rfl, rfl, fun b hb => Iff.rfl⟩, hw, ht⟩
  · rw [if_neg h]
    obtain ⟨t0, t1⟩ := num_range e.told hw
    have hl : e.low = num e.told * 2147483648 + e.val := rfl
    have hf : num e.told + 1 < 256 ^ e.told.length := by
      rw [hl] at ht
      omega
    obtain ⟨c1, c2⟩ := carry_num e.told hw hf
    have e1 : E.low { e with told := carryN e.told e.told.length, val := e.val % 2147483648 } = e.low := by
      show num (carryN e.told e.told.length) * 2147483648 + e.val % 2147483648 = _
      rw [c2, hl]
      omega
    have e2 : (carryN e.told e.told.length).length = e.told.length := carryN_length _ _
    have hW : EW { e with told := carryN e.told e.told.length, val := e.val % 2147483648 } := ⟨c1, by rw [e1]; show _ ≤ 2147483648 * 256 ^ (carryN e.told e.told.length).length; rw [e2]; exact ht⟩
    refine ⟨⟨by rw [e1]; simp, by simp, by simpa using e2, fun _ => hW, ?_, ?_, by simp, rfl, rfl, fun b hb => ?_⟩, hW⟩
    · show 0 ≤ e.val % 2147483648; omega
    · show e.val % 2147483648 < _; omega
    · unfold In X
      rw [e1]
      show (_ ≤ pre b ((carryN e.told e.told.length).length + 4) / 2 ∧ pre b ((carryN e.told e.told.length).length + 4) / 2 < _ + e.rng) ↔ _
      rw [e2]
theorem Went.trans {e e1 e2 : E} {s t : Nat} (h : Went e e1 s) (k : Went e1 e2 t) : Went e e2 (s + t) :=
  ⟨by rw [k.low, h.low, Int.pow_add, Int.mul_assoc], by rw [k.rng, h.rng, Int.pow_add, Int.mul_assoc], by rw [k.len, h.len]; omega, fun hw => k.ew (h.ew hw), k.v0, k.v1, by rw [k.cnt, h.cnt]; omega, by rw [k.raw, h.raw], by rw [k.rb, h.rb], fun b hb => (k.inn b hb).trans (h.inn b hb)⟩
/-- What a place that is taken makes of the interval. -/
theorem take0_low (e : E) (fl fh ft : Int) : (take0 e fl fh ft).low + (take0 e fl fh ft).rng = e.low + e.rng - e.rng / ft * (ft - fh) ∧ (take0 e fl fh ft).low = (if 0 < fl then e.low + (e.rng - e.rng / ft * (ft - fl)) else e.low) ∧ (take0 e fl fh ft).told = e.told ∧ (take0 e fl fh ft).count = e.count ∧ (take0 e fl fh ft).raw = e.raw ∧ (take0 e fl fh ft).rawBits = e.rawBits := by
  unfold take0
  by_cases h : 0 < fl
  · simp only [if_pos h]
    refine ⟨?_, ?_, by simp, by simp, by simp, by simp⟩
    · show num e.told * 2147483648 + (e.val + (e.rng - e.rng / ft * (ft - fl))) + e.rng / ft * (fh - fl) = num e.told * 2147483648 + e.val + e.rng - e.rng / ft * (ft - fh)
      have : e.rng / ft * (ft - fl) = e.rng / ft * (ft - fh) + e.rng / ft * (fh - fl) := by rw [← Int.mul_add]; congr 1; omega
      omega
    · show num e.told * 2147483648 + (e.val + (e.rng - e.rng / ft * (ft - fl))) = num e.told * 2147483648 + e.val + _
      omega
  · simp only [if_neg h]
    refine ⟨?_, rfl, by simp, by simp, by simp, by simp⟩
    show num e.told * 2147483648 + e.val + (e.rng - e.rng / ft * (ft - fh)) = num e.told * 2147483648 + e.val + e.rng - e.rng / ft * (ft - fh)
    omega
structure TakeFacts (e : E) (fl fh ft : Int) : Prop where
  went : Went (take0 e fl fh ft) (e.take fl fh ft) (steps 3 (take0 e fl fh ft).rng)
  ew : EW (e.take fl fh ft)
  r1 : 8388608 < (e.take fl fh ft).rng
  r2 : (e.take fl fh ft).rng ≤ 2147483648
theorem etake_facts (e : E) (h : EOk e) (hw : EW e) (fl fh ft : Int) (h0 : 0 ≤ fl) (h1 : fl < fh) (h2 : fh ≤ ft) (h3 : ft ≤ 32768) : TakeFacts e fl fh ft := by
  obtain ⟨p1, p2, p3, p4, p5, p6, p7, p8, p9⟩ := take_facts e.rng ft fl fh h.r1 h.r2 h0 h1 h2 h3
  obtain ⟨q1, q2, q3, q4, q5, q6⟩ := take0_low e fl fh ft
  obtain ⟨r1, r2, v0, v1, _, _, _⟩ := h
  have hr : 1 ≤ (take0 e fl fh ft).rng ∧ (take0 e fl fh ft).rng ≤ 2147483648 ∧ 0 ≤ (take0 e fl fh ft).val ∧ (take0 e fl fh ft).val < 4294967296 := by
    unfold take0
    split
    · refine ⟨p5, by show e.rng / ft * (fh - fl) ≤ _; omega, ?_, ?_⟩
      · show 0 ≤ e.val + (e.rng - e.rng / ft * (ft - fl)); omega
      · show e.val + (e.rng - e.rng / ft * (ft - fl)) < _; omega
    · refine ⟨by show 1 ≤ e.rng - e.rng / ft * (ft - fh); omega, by show e.rng - e.rng / ft * (ft - fh) ≤ _; omega, v0, by show e.val < _; omega⟩
  have ht : (take0 e fl fh ft).low + (take0 e fl fh ft).rng ≤ 2147483648 * 256 ^ (take0 e fl fh ft).told.length := by
    rw [q1, q3]; have := hw.top; omega
  obtain ⟨w1, w2⟩ := norm0_went (take0 e fl fh ft) (by rw [q3]; exact hw.tb) ht hr.1 hr.2.2.1 hr.2.2.2
  have w3 := normL_went 3 (norm0 (take0 e fl fh ft)) w1.v0 w1.v1
  have er : (norm0 (take0 e fl fh ft)).rng = (take0 e fl fh ft).rng := by have := w1.rng; simpa using this
  have w4 := w1.trans w3
  rw [er, Nat.zero_add] at w4
  have hb := steps_big 3 (take0 e fl fh ft).rng hr.2.1 (by have := hr.1; omega)
  refine ⟨w4, w3.ew w2, ?_, ?_⟩
  · have := w4.rng
    show 8388608 < (normL 3 (norm0 (take0 e fl fh ft))).rng
    rw [this]; exact hb.1
  · have := w4.rng
    show (normL 3 (norm0 (take0 e fl fh ft))).rng ≤ _
    rw [this]; exact hb.2
end Go.Proofs.Ytiabenmgbikllaa.M
