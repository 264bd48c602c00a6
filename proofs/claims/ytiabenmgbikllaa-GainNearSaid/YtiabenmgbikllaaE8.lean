/- The writer of bits: the bytes out of which all can be read (Done). Conditions: bounds on the numbers; what is told fits. -/
import Derived.Test.YtiabenmgbikllaaE4
import Derived.Test.YtiabenmgbikllaaE5
import Derived.Test.YtiabenmgbikllaaE6
import Derived.Test.YtiabenmgbikllaaE7
import Derived.Test.YtiabenmgbikllaaA2
import Derived.Test.YtiabenmgbikllaaE9
import Derived.Test.YtiabenmgbikllaaPAllx2
import Derived.Maps.RangeWalk
import Derived.StillTailTactics
namespace Go.Proofs.Ytiabenmgbikllaa.M
open Go.RowKit Go.Proofs.YtiabenmgbikllaaW.PrintWords Go.Proofs.YtiabenmgbikllaaW.PrintLast Go.Proofs.YtiabenmgbikllaaW.PrintMore Go.Proofs.Ytiabenmgbikllaa.PAll
attribute [local go_sem] max2_int min2_int max_two min_two max_three min_three max_four min_four

/-- The code's lower end, as bytes. -/
def E.all (e : E) : List Int := e.told ++ [e.val / 8388608 % 256, e.val / 32768 % 256, e.val / 128 % 256, e.val * 2 % 256]
/-- The bit i of the end is laid into the bytes. -/
def layBit (raw : List Int) (n : Nat) (out : List Int) (i : Nat) : List Int :=
  out.set (n - 1 - i / 8) (bits .or .u8 (bits .andNot .u8 (rd out ((n - 1 - i / 8 : Nat) : Int)) (2 ^ (i % 8))) (bits .and .u8 (rd raw ((i / 8 : Nat) : Int)) (2 ^ (i % 8))))
def layBits (raw : List Int) (n : Nat) (out : List Int) : Nat → List Int
  | 0 => out
  | i + 1 => layBit raw n (layBits raw n out i) i
def E.out0 (e : E) (n : Nat) : List Int := e.all.take n ++ (List.replicate n 0).drop e.all.length
def E.out1 (e : E) (n : Nat) : List Int := if n < e.all.length ∧ anyNZ (e.all.drop n) = true then increase (e.out0 n) 0 else e.out0 n
def E.out2 (e : E) (n : Nat) : List Int := layBits e.raw n (e.out1 n) e.rawBits.toNat
def E.done (e : E) (n : Nat) : List Int := if cmpL (e.out2 n) (e.out1 n) < 0 then increase (e.out2 n) e.rawBits.toNat else e.out2 n
structure EOkR (e : E) : Prop where
  b0 : 0 ≤ e.rawBits
  len : (e.raw.length : Int) = (e.rawBits + 7) / 8
  cnt : e.count = 33 + 8 * e.told.length + e.rawBits
  tb : Bytes e.told
  rb : Bytes e.raw

theorem bitLenAux_lt : ∀ n x k, x < 2 ^ k → Lib.bitLenAux n x ≤ k
  | 0, _, _, _ => Nat.zero_le _
  | n + 1, x, 0, h => by
    have : x = 0 := by simpa using h
    simp [Lib.bitLenAux, this]
  | n + 1, x, k + 1, h => by
    have := bitLenAux_lt n (x / 2) k (by rw [Nat.pow_succ] at h; omega)
    simp only [Lib.bitLenAux]
    split <;> omega
theorem bitLen_le32 (x : Nat) (h : x ≤ 2147483648) : Lib.bitLen x ≤ 32 := bitLenAux_lt 64 x 32 (by omega)
theorem Bytes.app {a b : List Int} (h : Bytes a) (k : Bytes b) : Bytes (a ++ b) := fun x hx => by
  rcases List.mem_append.1 hx with hx | hx
  · exact h x hx
  · exact k x hx
theorem Bytes.rep (n : Nat) : Bytes (List.replicate n 0) := fun x hx => by rw [List.eq_of_mem_replicate hx]; omega
theorem Bytes.take {a : List Int} (h : Bytes a) (n : Nat) : Bytes (a.take n) := fun x hx => h x (List.mem_of_mem_take hx)
theorem Bytes.drop {a : List Int} (h : Bytes a) (n : Nat) : Bytes (a.drop n) := fun x hx => h x (List.mem_of_mem_drop hx)
theorem E.all_bytes (e : E) (h : EOkR e) : Bytes e.all := h.tb.app (fun x hx => by
  simp at hx
  omega)
theorem E.out0_bytes (e : E) (n : Nat) (h : EOkR e) : Bytes (e.out0 n) := ((e.all_bytes h).take n).app ((Bytes.rep n).drop _)

theorem wrap_u8_range (x : Int) : 0 ≤ IntKind.u8.wrap x ∧ IntKind.u8.wrap x < 256 := by rw [IntKind.wrap_u8]; omega
theorem bits_u8_range (o : BinOp) (a b : Int) : 0 ≤ bits o .u8 a b ∧ bits o .u8 a b < 256 := by
  unfold bits
  split <;> exact wrap_u8_range _
theorem layBits_bytes (raw : List Int) (n : Nat) (out : List Int) (h : Bytes out) : ∀ i, Bytes (layBits raw n out i)
  | 0 => h
  | i + 1 => (layBits_bytes raw n out h i).set _ _ (bits_u8_range _ _ _)
theorem increase_bytes (l : List Int) (p : Nat) (h : Bytes l) : Bytes (increase l p) := by
  unfold increase
  generalize (2 : Int) ^ (p % 8) = c
  generalize l.length - p / 8 = k
  induction k generalizing l c with
  | zero => exact h
  | succ k ih =>
    unfold incN
    split
    · exact ih _ (h.set _ _ (by omega)) _
    · exact h
theorem E.out1_bytes (e : E) (n : Nat) (h : EOkR e) : Bytes (e.out1 n) := by
  unfold E.out1
  split
  · exact increase_bytes _ _ (e.out0_bytes n h)
  · exact e.out0_bytes n h
theorem E.out2_bytes (e : E) (n : Nat) (h : EOkR e) : Bytes (e.out2 n) := layBits_bytes _ _ _ (e.out1_bytes n h) _

set_option maxHeartbeats 2000000 in
set_option maxRecDepth 100000 in
theorem edone_calls (w : World) (f : Nat → Prop) (g : Nat) (e : E) (n : Nat) (h : EncAt w f g e) (hk : EOk e) (hr : EOkR e) (hn : n ≤ 1275) (hfit : e.tell ≤ 8 * n) :
    Calls Try.prog 44 #[.pointer (some ⟨g, 0, none⟩), .int .i64 n] w fun r w' => ∃ v, r = .returned (.tuple #[v, .int .i64 0]) ∧ w'.ownsRow 0 5 1 v n (nums .u8 (e.done n)) ∧ Chg w w' No ∧ Ge w.heap.size (blkOf v) := by
  have HK := Aside0.mk (And.intro h (And.intro hk hr))
  clear h hk hr
  go_enter Try.func44, Try.ntmps44
  go_upto_region 5 with (go_at_call 41; refine (etell_calls _ f g e HK.out.1 HK.out.2.1).mono ?_; rintro r w1 ⟨rfl, nd, rfl⟩)
  obtain ⟨⟨vt, vr, hE⟩, hok, hokr⟩ := HK.out
  have CE : Aside0 (∀ W, Chg w W No → EAt W f g e vt vr) := ⟨fun W hW => hE.chg hW (fun _ _ hh => hh)⟩
  go_cut [6] (fun s6 wx => Aside0 (wx.ownsRow 0 5 1 s6 e.all.length (nums .u8 e.all) ∧ Chg w wx No ∧ Ge w.heap.size (blkOf s6)))
  case first =>
    have CR : Aside0 (∀ W, Chg w W No → Rd W .u8 vt e.told) := ⟨fun W hW => Rd.own (CE.out W hW).ot⟩
    have k0 := hE.c0
    have k1 := hE.c1
    have hgs : g < w.heap.size := hE.lt g hE.hg
    have v0 := hok.v0
    have v1 := hok.v1
    have hln := hok.n
    have u1 : IntKind.u8.wrap (e.val / 8388608) = e.val / 8388608 % 256 := IntKind.wrap_u8 _
    have u2 : IntKind.u8.wrap (e.val / 32768) = e.val / 32768 % 256 := IntKind.wrap_u8 _
    have u3 : IntKind.u8.wrap (e.val / 128) = e.val / 128 % 256 := IntKind.wrap_u8 _
    have u4 : IntKind.u8.wrap (e.val * 2) = e.val * 2 % 256 := IntKind.wrap_u8 _
    have u5 : IntKind.u64.wrap (e.val * 2) = e.val * 2 := wraps_u64 _ (by omega) (by omega)
    clear hE hok hokr
    go_region_held3 (fun w' => w'.cell? ⟨g, 0, none⟩ = some vt ∧ w'.cell? ⟨g, 1, none⟩ = some (.int .u64 e.val)) (first | go_keep | exact ⟨by assumption, by assumption⟩) (first
      | (refine appNs rfl (.tmp 29) (.tmp 54) 26 5 .u8 1 rfl Try.underlying26 info5 (by omega) _ e.told [e.val / 8388608 % 256, e.val / 32768 % 256, e.val / 128 % 256, e.val * 2 % 256] _ 4 4 rfl rfl rfl ?_ ?_ ?_ ?_
         · intro j hj
           have hj4 : j = 0 ∨ j = 1 ∨ j = 2 ∨ j = 3 := by omega
           rcases hj4 with rfl | rfl | rfl | rfl <;> first | exact blk_cell HB.out _ | go_simp
         · first
           | exact own_alloc HO.out.1 _
           | exact HO.out.1
         · omega
         intro vb w2 ho hch hxt
         have hch2 : Chg w w2 No := by
           refine Chg.trans ?_ hch (Ext.new HO.out.2.2)
           repeat (first | exact HO.out.2.1 | apply Chg.alloc | apply Chg.drew | apply Chg.drewN)
         have hge2 : Ge w.heap.size (blkOf vb) := by
           refine HO.out.2.2.ext ?_ hxt
           refine Nat.le_trans HO.out.2.1.size ?_
           first | exact Nat.le_refl _ | simp
         obtain ⟨r0, r1, _, _, _, _, rf⟩ := ecell (CE.out w2 hch2).blk
         have HA := Aside0.mk (And.intro ho (And.intro hch2 hge2))
         clear ho hch hxt hch2 hge2 rf)
      | (go_at_call 69
         refine (clone_calls _ vt e.told (CR.out _ (by repeat (first | exact Chg.refl _ _ | apply Chg.alloc | apply Chg.drew | apply Chg.drewN))) (by omega)).mono ?_
         rintro r w1 ⟨va, rfl, ho, hch, hge⟩
         have hch' : Chg w w1 No := Chg.trans (by repeat (first | exact Chg.refl _ _ | apply Chg.alloc | apply Chg.drew | apply Chg.drewN)) hch (Ext.refl _ _)
         obtain ⟨q0, q1, _, _, _, _, qf⟩ := ecell (CE.out w1 hch').blk
         have hgs1 : g < w1.heap.size := (CE.out w1 hch').lt g (CE.out w1 hch').hg
         try have HB := Aside0.mk (hch.blk (g := w.heap.size) (o := .cells #[.int .u8 (e.val / 8388608 % 256), .int .u8 (e.val / 32768 % 256), .int .u8 (e.val / 128 % 256), .int .u8 (e.val * 2 % 256)] 5) (heap_alloc_new w _) (fun h => h))
         have HO := Aside0.mk (And.intro ho (And.intro hch' (show Ge w.heap.size (blkOf va) from fun b hb => by have := hge b hb; simp at this; omega)))
         clear ho hch hge hch' qf))
    all_goals
      go_wp2_with fail
      go_meet
      exact HA
  case rest =>
    clear hE hok hokr
    obtain ⟨A6, c6, rfl⟩ := own_slice hcut.out.1
    have hmk := print_make (P := Try.prog) 26 5 .u8 1 Try.underlying26 info5 (by omega) n (by omega)
    have hsz5 : (Try.prog.info? 5).map (·.size) = some 1 := by
      obtain ⟨i0, hi, hz0, hz1, hz2⟩ := info_parts info5
      rw [hi]; simp [hz1]
    have HM : Aside0 ((wc.alloc (.cells (madeCells #[.int .u8 0] n) 5)).ownsRow 0 5 1 (.slice (some ⟨wc.heap.size, 0, none⟩) n n) n (nums .u8 (List.replicate n 0)) ∧ ReadsInt (wc.alloc (.cells (madeCells #[.int .u8 0] n) 5)) .u8 A6 e.all.length e.all) :=
      ⟨own_made wc 0 5 .u8 n (Nat.zero_le _) (by omega), (own_reads' hcut.out.1).below (below_alloc (Below.refl _ _) _)⟩
    have hall : e.all.length ≤ 200000000000 := by
      have := HK.out.2.1.n
      simp [E.all]; omega
    go_upto_region 8 with (with_reducible refine copyRow (o := ⟨some 60, _, _, _, _, _⟩) rfl (.tmp 58) (.tmp 59) 26 5 .u8 rfl Try.underlying26 hsz5 wc.heap.size n n (List.replicate n 0) e.all A6 c6 rfl rfl HM.out.1 HM.out.2 ?_; intro w3 ho3 hc3)
    have H3 : Aside0 (w3.ownsRow 0 5 1 (.slice (some ⟨wc.heap.size, 0, none⟩) n n) n (nums .u8 (e.out0 n)) ∧ Chg w w3 No ∧ w.heap.size ≤ wc.heap.size ∧ w3.ownsRow 0 5 1 (.slice A6 e.all.length c6) e.all.length (nums .u8 e.all)) := by
      refine ⟨ho3, Chg.trans (hcut.out.2.1.alloc _) hc3 (fun k hk => .inr (by rw [hk]; exact hcut.out.2.1.size)), hcut.out.2.1.size, hc3.own (own_alloc hcut.out.1 _) (fun k hk hh => ?_)⟩
      have := own_lt hcut.out.1 k hk
      omega
    clear ho3 hc3 HM hmk
    generalize hgo : wc.heap.size = go at *
    clear hcut hgo
    generalize hL : e.all.length = L at *
    have HL := Aside0.mk hL
    clear hL
    obtain ⟨bb, hbb⟩ : ∃ b : Bool, b = (decide (n < L) && anyNZ (e.all.drop n)) := ⟨_, rfl⟩
    have HBB := Aside0.mk hbb
    clear hbb
    go_frame
    go_cut [70] (fun s70 wx => ∃ nd, s70 = .bool bb ∧ wx = w3.drewN nd)
    case first =>
      by_cases hl : n < L
      · obtain ⟨A8, hsl, hrd, hcap⟩ := print_cut_int (P := Try.prog) (k := .u8) 26 5 Try.underlying26 (Classical.choose_spec (Option.map_eq_some_iff.1 hsz5)).1 (Classical.choose_spec (Option.map_eq_some_iff.1 hsz5)).2 A6 c6 e.all n (by omega) (by rw [HL.out]; omega) (by rw [HL.out]; exact own_le H3.out.2.2.2)
        have hd : (e.all.drop n).length = L - n := by rw [List.length_drop, HL.out]
        rw [Int.toNat_natCast, HL.out] at hsl
        rw [Int.toNat_natCast] at hrd
        have hlb : decide (n < L) = true := by simpa using hl
        have hcon := contains_calls w3 A8 (c6 - n) (e.all.drop n) (hrd w3 (by rw [HL.out]; exact own_reads' H3.out.2.2.2)) (by rw [hd]; omega)
        rw [hd] at hcon
        have HR := Aside0.mk hcon
        clear hrd hcap hcon
        rw [hd] at hsl
        go_wp2_with fail
        refine HR.out.mono ?_
        rintro r w4 ⟨rfl, rfl⟩
        go_wp2_with fail
        go_meet
        exact ⟨0, by rw [HBB.out, hlb]; rfl, rfl⟩
      · have hlb : decide (n < L) = false := by simpa using hl
        go_wp2_with fail
        go_meet
        exact ⟨0, by rw [HBB.out, hlb]; rfl, rfl⟩
    case rest =>
      obtain ⟨nd, rfl, rfl⟩ := hcut
      go_upto_if 70 with fail
      go_cut [] (fun wx => Aside0 (wx.ownsRow 0 5 1 (.slice (some ⟨go, 0, none⟩) n n) n (nums .u8 (e.out1 n)) ∧ Chg w wx No ∧ w.heap.size ≤ go))
      case first =>
        cases bb with
        | true =>
          have h1 : e.out1 n = increase (e.out0 n) 0 := by
            rw [E.out1, HL.out, if_pos (by simpa using HBB.out.symm)]
          have h2 : (e.out0 n).length = n := by have := H3.out.1.1; simpa [nums] using this
          have HI := increase_calls (w3.drewN nd) (.slice (some ⟨go, 0, none⟩) n n) (e.out0 n) 0 (by rw [h2]; exact H3.out.1) (e.out0_bytes n HK.out.2.2) (by simp) (by omega)
          rw [h2, ← h1] at HI
          have HI' := Aside0.mk HI
          clear HI h1 h2
          go_wp2_with fail
          refine HI'.out.mono ?_
          rintro r w4 ⟨rfl, ho4, hc4⟩
          have H4 : Aside0 (w4.ownsRow 0 5 1 (.slice (some ⟨go, 0, none⟩) n n) n (nums .u8 (e.out1 n)) ∧ Chg w w4 No ∧ w.heap.size ≤ go) := ⟨ho4, Chg.trans (H3.out.2.1.drewN _) hc4 (Ext.slice H3.out.2.2.1), H3.out.2.2.1⟩
          clear ho4 hc4
          go_wp2_with fail
          go_meet
          exact H4
        | false =>
          have h1 : e.out1 n = e.out0 n := by
            rw [E.out1, HL.out, if_neg (by have := HBB.out.symm; simpa using this)]
          go_wp2_with fail
          go_meet
          exact ⟨by rw [h1]; exact H3.out.1, H3.out.2.1.drewN _, H3.out.2.2.1⟩
      case rest =>
        clear hsz5 HBB HL H3
        obtain ⟨m, hm⟩ := Int.eq_ofNat_of_zero_le HK.out.2.2.b0
        have HM := Aside0.mk hm
        have k4 := (CE.out wc hcut.out.2.1).c4
        rw [hm] at k4
        have hm8 : m ≤ 8 * n := by
          have h1 := HK.out.2.2.cnt
          have h2 := bitLen_le32 e.rng.toNat (by have := HK.out.2.1.r2; omega)
          unfold E.tell at hfit
          omega
        have hml : (e.raw.length : Int) = (m + 7) / 8 := by rw [← hm]; exact HK.out.2.2.len
        clear hm
        have hol : (e.out1 n).length = n := by have := hcut.out.1.1; simpa [nums] using this
        have HOL := Aside0.mk hol
        clear hol
        go_wp2_with (go_at_call 69; refine (clone_calls wc _ (e.out1 n) (Rd.own (e := 5) (by rw [HOL.out]; exact hcut.out.1)) (by rw [HOL.out]; omega)).mono ?_; rintro r w5 ⟨vl, rfl, ho5, hc5, hg5⟩; have k4' := (CE.out w5 (hcut.out.2.1.trans hc5 (Ext.refl _ _))).c4; rw [HM.out] at k4')
        have H5 : Aside0 (w5.ownsRow 0 5 1 vl n (nums .u8 (e.out1 n)) ∧ w5.ownsRow 0 5 1 (.slice (some ⟨go, 0, none⟩) n n) n (nums .u8 (e.out1 n)) ∧ Chg w w5 No ∧ ¬ blkOf vl go ∧ w.heap.size ≤ go) := by
          refine ⟨by have := ho5; rwa [HOL.out] at this, hc5.own hcut.out.1 (fun _ _ h => h), hcut.out.2.1.trans hc5 (Ext.refl _ _), fun hh => ?_, hcut.out.2.2⟩
          have h1 := hg5 go hh
          have h2 := own_lt hcut.out.1 go rfl
          omega
        clear ho5 hc5 hg5 k4 hcut
        go_loopg [9, 10, 11, 79] m (fun k u9 u10 u11 u79 wr => ∃ i : Nat, u79 = .int .i64 i ∧ k + i = m ∧ Aside0 (wr.ownsRow 0 5 1 vl n (nums .u8 (e.out1 n)) ∧ wr.ownsRow 0 5 1 (.slice (some ⟨go, 0, none⟩) n n) n (nums .u8 (layBits e.raw n (e.out1 n) i)) ∧ Chg w wr No))
        case atStart => exact ⟨0, rfl, by omega, ⟨H5.out.1, H5.out.2.1, H5.out.2.2.1⟩⟩
        case round =>
          clear k4'
          obtain ⟨i, rfl, hki, HR⟩ := hrel
          by_cases him : i < m
          · have hEr := CE.out wr HR.out.2.2
            have k3 := hEr.c3
            have k4 := hEr.c4
            rw [HM.out] at k4
            have hor := hEr.orw
            obtain ⟨A9, c9, rfl⟩ := own_slice hor
            obtain ⟨q, hq⟩ : ∃ q : Nat, q = i / 8 := ⟨_, rfl⟩
            obtain ⟨t, ht⟩ : ∃ t : Nat, t = n - 1 - q := ⟨_, rfl⟩
            have hqr : q < e.raw.length := by omega
            have htn : t < n := by omega
            have hqn : q < n := by omega
            have eq : (i : Int) / 8 = (q : Int) := by omega
            have et : (n : Int) - 1 - (q : Int) = (t : Int) := by omega
            have HQ : Aside0 (q = i / 8 ∧ t = n - 1 - i / 8) := ⟨hq, by rw [ht, hq]⟩
            clear hq ht
            obtain ⟨ad9, rfl, hx9⟩ := (own_reads' hor).at_ (q : Int) (by omega) (by omega)
            obtain ⟨ck, fk⟩ := own_at HR.out.2.1 (t : Int) (by omega) (by omega)
            simp only [Int.toNat_natCast] at ck fk hx9
            generalize hrl : e.raw.length = R at *
            have HRL := Aside0.mk hrl
            clear hEr hor hrl
            have hp : (2 : Int) ^ (i % 8) % 256 = 2 ^ (i % 8) := by have := pow_range i; omega
            go_wp2_with fail
            go_region
            go_wp2_with fail
            have eq2 : (i : Int).tdiv 8 = (q : Int) := by rw [Int.tdiv_eq_ediv_of_nonneg (by omega)]; exact eq
            have eq3 : IntKind.i64.wrap (q : Int) = (q : Int) := IntWalk.i64_in _ (by omega)
            have HX : Aside0 ((wr.setCell ⟨go, t, none⟩ (.int .u8 (bits .or .u8 (bits .andNot .u8 (rd (layBits e.raw n (e.out1 n) i) t) (2 ^ (i % 8))) (bits .and .u8 (rd e.raw q) (2 ^ (i % 8)))))).ownsRow 0 5 1 vl n (nums .u8 (e.out1 n)) ∧
                (wr.setCell ⟨go, t, none⟩ (.int .u8 (bits .or .u8 (bits .andNot .u8 (rd (layBits e.raw n (e.out1 n) i) t) (2 ^ (i % 8))) (bits .and .u8 (rd e.raw q) (2 ^ (i % 8)))))).ownsRow 0 5 1 (.slice (some ⟨go, 0, none⟩) n n) n (nums .u8 (layBits e.raw n (e.out1 n) (i + 1))) ∧
                Chg w (wr.setCell ⟨go, t, none⟩ (.int .u8 (bits .or .u8 (bits .andNot .u8 (rd (layBits e.raw n (e.out1 n) i) t) (2 ^ (i % 8))) (bits .and .u8 (rd e.raw q) (2 ^ (i % 8)))))) No) := by
              obtain ⟨h1, h2, h3⟩ := HR.out
              refine ⟨own_setCell (p := ⟨go, t, none⟩) h1 (fun hh => H5.out.2.2.2.1 hh.symm) _, ?_, h3.setCell (p := ⟨go, t, none⟩) (.inr H5.out.2.2.2.2) _⟩
              have := (own_store h2 (t : Int) (bits .or .u8 (bits .andNot .u8 (rd (layBits e.raw n (e.out1 n) i) t) (2 ^ (i % 8))) (bits .and .u8 (rd e.raw q) (2 ^ (i % 8))))).1
              rw [Int.toNat_natCast] at this
              show World.ownsRow _ 0 5 1 _ n (nums .u8 (layBit e.raw n (layBits e.raw n (e.out1 n) i) i))
              unfold layBit
              rw [← HQ.out.1, show n - 1 - q = t by rw [HQ.out.1, HQ.out.2]]
              exact this
            go_region
            all_goals
              go_wp2_with fail
              go_roundg (gk - 1)
              case measure => omega
              case rel => exact ⟨i + 1, by go_num, by omega, ⟨HX.out.1, HX.out.2.1, (HX.out.2.2.drew).drew⟩⟩
          · have hmi : i = m := by omega
            have H6 : Aside0 (wr.ownsRow 0 5 1 vl n (nums .u8 (e.out1 n)) ∧ wr.ownsRow 0 5 1 (.slice (some ⟨go, 0, none⟩) n n) n (nums .u8 (e.out2 n)) ∧ Chg w wr No) := ⟨HR.out.1, by rw [E.out2, HM.out, Int.toNat_natCast, ← hmi]; exact HR.out.2.1, HR.out.2.2⟩
            obtain ⟨Al, cl, rfl⟩ := own_slice H6.out.1
            clear HR hmi
            have k4 := (CE.out wr H6.out.2.2).c4
            rw [HM.out] at k4
            have hl2 : (e.out2 n).length = n := by have := H6.out.2.1.1; simpa [nums] using this
            have hb2 : Bytes (e.out2 n) := e.out2_bytes n HK.out.2.2
            obtain ⟨cc, hcc⟩ : ∃ c : Int, c = cmpL (e.out2 n) (e.out1 n) := ⟨_, rfl⟩
            have HC := Aside0.mk (And.intro hl2 (And.intro hb2 hcc))
            clear hl2 hb2
            by_cases hneg : cc < 0
            · have hdone : e.done n = increase (e.out2 n) m := by rw [E.done, ← hcc, if_pos hneg, HM.out]; rfl
              have HD := Aside0.mk hdone
              clear hdone hcc
              go_wp2_with (first
                | (go_at_call 99; refine (compare_calls wr n _ _ _ _ (e.out2 n) (e.out1 n) H6.out.2.1 H6.out.1 (by omega)).mono ?_; rintro r w6 ⟨rfl, ⟨nd6, rfl⟩⟩; rw [← HC.out.2.2])
                | (go_at_call 98; have HI := Aside0.mk (increase_calls (wr.drewN nd6) (.slice (some ⟨go, 0, none⟩) n n) (e.out2 n) m (by rw [HC.out.1]; exact H6.out.2.1) HC.out.2.1 (by rw [HC.out.1]; omega) (by rw [HC.out.1]; omega)); refine HI.out.mono ?_; rintro r w7 ⟨rfl, ho7, hc7⟩; have H7 := Aside0.mk (And.intro ho7 hc7); clear ho7 hc7))
              go_returns
              obtain ⟨ho7, hc7⟩ := H7.out
              exact ⟨_, rfl, by rw [HD.out]; rw [HC.out.1] at ho7; exact ho7, Chg.trans (H6.out.2.2.drewN _) hc7 (Ext.slice H5.out.2.2.2.2), Ge.slice H5.out.2.2.2.2⟩
            · have hdone : e.done n = e.out2 n := by rw [E.done, ← hcc, if_neg hneg]
              have HD := Aside0.mk hdone
              clear hdone hcc
              go_wp2_with (first
                | (go_at_call 99; refine (compare_calls wr n _ _ _ _ (e.out2 n) (e.out1 n) H6.out.2.1 H6.out.1 (by omega)).mono ?_; rintro r w6 ⟨rfl, ⟨nd6, rfl⟩⟩; rw [← HC.out.2.2]))
              go_returns
              exact ⟨_, rfl, by rw [HD.out]; exact H6.out.2.1, H6.out.2.2.drewN _, Ge.slice H5.out.2.2.2.2⟩
end Go.Proofs.Ytiabenmgbikllaa.M
