/- Contracts of the program's functions and plain laws for the law PulseKnown, several texts in one (part 3); the program's functions as Lean functions came out of the kit's print. Conditions: each theorem's own. -/
import Derived.Test.YtiabenmgbikllaaQPulseKnownb
-- E3
namespace Go.Proofs.Ytiabenmgbikllaa.M
open Go.RowKit Go.Proofs.YtiabenmgbikllaaW.PrintWords Go.Proofs.YtiabenmgbikllaaW.PrintLast Go.Proofs.YtiabenmgbikllaaW.PrintMore Go.Proofs.Ytiabenmgbikllaa.PAll
attribute [local go_sem] max2_int min2_int max_two min_two max_three min_three max_four min_four

/-- The lower and the upper place of a symbol. -/
def symLo (t : List Int) (s : Int) : Int := if 0 < s then 256 - rd t (s - 1) else 0
def symHi (t : List Int) (s : Int) : Int := 256 - rd t s
def E.symbol (e : E) (s : Int) (t : List Int) : E := e.take (symLo t s) (symHi t s) 256
/-- A table whose symbols can be told, as the program asks and as the places want it. -/
structure TabOk (t : List Int) : Prop where
  good : tabs_Good.f 300 t = some true
  len : t.length ≤ 256
  lo : ∀ i : Nat, i < t.length → 0 ≤ t.getD i 0 ∧ t.getD i 0 ≤ 255
  dec : ∀ i : Nat, i + 1 < t.length → t.getD (i + 1) 0 < t.getD i 0
  last : t.getD (t.length - 1) 0 = 0
theorem TabOk.rd_range {t : List Int} (h : TabOk t) (s : Int) (h0 : 0 ≤ s) (h1 : s < t.length) : 0 ≤ rd t s ∧ rd t s ≤ 255 := h.lo s.toNat (by omega)
theorem TabOk.rd_dec {t : List Int} (h : TabOk t) (s : Int) (h0 : 1 ≤ s) (h1 : s < t.length) : rd t s < rd t (s - 1) := by
  have := h.dec (s - 1).toNat (by omega)
  rwa [show (s - 1).toNat + 1 = s.toNat by omega] at this
theorem TabOk.place {t : List Int} (h : TabOk t) (s : Int) (h0 : 0 ≤ s) (h1 : s < t.length) : 0 ≤ symLo t s ∧ symLo t s < symHi t s ∧ symHi t s ≤ 256 := by
  have a := h.rd_range s h0 h1
  unfold symLo symHi
  by_cases hs : 0 < s
  · rw [if_pos hs]
    have b := h.rd_range (s - 1) (by omega) (by omega)
    have c := h.rd_dec s (by omega) h1
    omega
  · rw [if_neg hs]; omega

set_option maxHeartbeats 1000000 in
set_option maxRecDepth 100000 in
theorem esymbol_calls (w : World) (f : Nat → Prop) (g : Nat) (e : E) (s : Int) (t : List Int) (A : Option Addr) (c : Nat) (h : EncAt w f g e) (hk : EOk e) (ht : TabOk t) (hr : ReadsInt w .i64 A t.length t) (hc : t.length ≤ c)
    (h0 : 0 ≤ s) (h1 : s < t.length) :
    Calls Try.prog 91 #[.pointer (some ⟨g, 0, none⟩), .int .i64 s, .slice A t.length c] w fun r w' => r = .returned (.int .i64 0) ∧ ∃ f', EncAt w' f' g (e.symbol s t) ∧ Chg w w' f ∧ Ext w f f' := by
  obtain ⟨ad, rfl, hx⟩ := hr.at_ s h0 h1
  have HP := Aside0.mk (ht.place s h0 h1)
  have HS := Aside0.mk h
  have HT := Aside0.mk ht
  have HR := Aside0.mk (show Kd.C (Kd.int .i64) w (some ad) t.length t from Kd.C_of_reads (d := 0) (readsInt_of.1 hr))
  have HK := Aside0.mk hk
  have hlen := ht.len
  have ra := ht.rd_range s h0 h1
  clear h ht hk
  have HD : Aside0 (∀ nd, EncAt (w.drewN nd) f g e) := ⟨fun nd => HS.out.chg ((Chg.refl w No).drewN nd) (fun _ _ hh => hh)⟩
  obtain ⟨ra1, ra2⟩ := ra
  have hi : symHi t s = 256 - rd t s := rfl
  have HI := Aside0.mk hi
  clear hi
  by_cases hs : 0 < s
  · obtain ⟨ad', ha, hx1⟩ := hr.at_ (s - 1) (by omega) (by omega)
    injection ha with ha
    subst ha
    rw [show (s - 1).toNat = s.toNat - 1 by omega] at hx1
    obtain ⟨rb1, rb2⟩ := HT.out.rd_range (s - 1) (by omega) (by omega)
    have HL := Aside0.mk (show symLo t s = 256 - rd t (s - 1) by rw [symLo, if_pos hs])
    clear hr
    go_enter Try.func91, Try.ntmps91
    go_wp2_with (go_at_call 126; with_reducible refine (tabs_Good.calls 300 _ c t true _ HR.out hc HT.out.good).mono ?_; rintro r w' ⟨rfl, ⟨nd, rfl⟩⟩)
    obtain ⟨nd, hnd⟩ : ∃ n, n = nd := ⟨_, rfl⟩
    subst hnd
    rw [← HL.out, ← HI.out]
    refine (etake_calls _ f g e (symLo t s) (symHi t s) 256 (HD.out _) HK.out HP.out.1 HP.out.2.1 HP.out.2.2 (by omega)).mono ?_
    rintro r w1 ⟨rfl, f', hE, hch, hxt⟩
    have HF : Aside0 (∃ f', EncAt w1 f' g (e.symbol s t) ∧ Chg w w1 f ∧ Ext w f f') := ⟨⟨f', hE, ((Chg.refl w f).drewN _).trans hch (Ext.refl _ _), hxt.le (Nat.le_refl _)⟩⟩
    clear hE hch hxt
    go_wp2
    go_returns
    exact ⟨rfl, HF.out⟩
  · have HL := Aside0.mk (show symLo t s = 0 by rw [symLo, if_neg hs])
    clear hr
    go_enter Try.func91, Try.ntmps91
    go_wp2_with (go_at_call 126; with_reducible refine (tabs_Good.calls 300 _ c t true _ HR.out hc HT.out.good).mono ?_; rintro r w' ⟨rfl, ⟨nd, rfl⟩⟩)
    rw [← HI.out]
    refine (etake_calls _ f g e 0 (symHi t s) 256 (HD.out _) HK.out (by omega) (by rw [← HL.out]; exact HP.out.2.1) HP.out.2.2 (by omega)).mono ?_
    rintro r w1 ⟨rfl, f', hE, hch, hxt⟩
    have HF : Aside0 (∃ f', EncAt w1 f' g (e.symbol s t) ∧ Chg w w1 f ∧ Ext w f f') := ⟨⟨f', by rw [E.symbol, HL.out]; exact hE, ((Chg.refl w f).drewN _).trans hch (Ext.refl _ _), hxt.le (Nat.le_refl _)⟩⟩
    clear hE hch hxt
    go_wp2
    go_returns
    exact ⟨rfl, HF.out⟩
end Go.Proofs.Ytiabenmgbikllaa.M

-- E7
namespace Go.Proofs.Ytiabenmgbikllaa.M
open Go.RowKit Go.Proofs.YtiabenmgbikllaaW.PrintWords Go.Proofs.YtiabenmgbikllaaW.PrintLast Go.Proofs.YtiabenmgbikllaaW.PrintMore
attribute [local go_sem] max2_int min2_int max_two min_two max_three min_three max_four min_four

/-- c is added to the number of the first k bytes. -/
def incN (l : List Int) (c : Int) : Nat → List Int
  | 0 => l
  | k + 1 => if 0 < c then incN (l.set k ((c + l.getD k 0) % 256)) ((c + l.getD k 0) / 256) k else l
theorem incN_length (k : Nat) : ∀ l c, (incN l c k).length = l.length := by
  induction k with
  | zero => intro l c; rfl
  | succ k ih => intro l c; unfold incN; split <;> simp [ih]
def increase (l : List Int) (p : Nat) : List Int := incN l (2 ^ (p % 8)) (l.length - p / 8)

/-- A slice that the call owns, in the blocks of f. -/
def Bytes (l : List Int) : Prop := ∀ x ∈ l, 0 ≤ x ∧ x < 256
theorem Bytes.at_ {l : List Int} (h : Bytes l) (k : Int) (h0 : 0 ≤ k) (h1 : k < l.length) : 0 ≤ rd l k ∧ rd l k < 256 := by
  have e : rd l k = l[k.toNat]'(by omega) := by simp [rd, show k.toNat < l.length by omega]
  rw [e]
  exact h _ (List.getElem_mem _)
theorem Bytes.set {l : List Int} (h : Bytes l) (k : Nat) (x : Int) (hx : 0 ≤ x ∧ x < 256) : Bytes (l.set k x) := by
  intro y hy
  rcases List.mem_or_eq_of_mem_set hy with hy | rfl
  · exact h y hy
  · exact hx

theorem incN_go (l : List Int) (c : Int) (k : Nat) (h : 0 < c) : incN l c (k + 1) = incN (l.set k ((c + rd l k) % 256)) ((c + rd l k) / 256) k := by
  show (if 0 < c then _ else _) = _
  rw [if_pos h]; rfl
theorem incN_stop (l : List Int) (c : Int) (k : Nat) (h : ¬ 0 < c) : incN l c k = l := by
  cases k with
  | zero => rfl
  | succ k => show (if 0 < c then _ else _) = _; rw [if_neg h]
theorem pow_range (p : Nat) : (1 : Int) ≤ 2 ^ (p % 8) ∧ (2 : Int) ^ (p % 8) ≤ 128 := by
  have h : p % 8 < 8 := Nat.mod_lt _ (by decide)
  generalize p % 8 = q at h
  have : q = 0 ∨ q = 1 ∨ q = 2 ∨ q = 3 ∨ q = 4 ∨ q = 5 ∨ q = 6 ∨ q = 7 := by omega
  rcases this with rfl | rfl | rfl | rfl | rfl | rfl | rfl | rfl <;> decide

set_option maxHeartbeats 1000000 in
set_option maxRecDepth 100000 in
theorem increase_calls (w : World) (v : Value) (l : List Int) (p : Nat) (h : w.ownsRow 0 5 1 v l.length (nums .u8 l)) (hb : Bytes l) (hp : p / 8 ≤ l.length) (hn : l.length ≤ 1099511627776) :
    Calls Try.prog 98 #[v, .int .i64 p] w fun r w' => r = .returned (.tuple #[]) ∧ w'.ownsRow 0 5 1 v l.length (nums .u8 (increase l p)) ∧ Chg w w' (blkOf v) := by
  have hpow := pow_range p
  obtain ⟨c0, hc0⟩ : ∃ c : Int, c = 2 ^ (p % 8) := ⟨_, rfl⟩
  have hw : wrap64 (2 ^ (p % 8)) = c0 := by rw [hc0]; exact IntWalk.wrap64_in _ (by omega)
  rw [← hc0] at hpow
  obtain ⟨k0, hk0⟩ : ∃ k : Nat, k = l.length - p / 8 := ⟨_, rfl⟩
  have hR : increase l p = incN l c0 k0 := by rw [increase, hc0, hk0]
  have HC := Aside0.mk hR
  rcases h.2 with ⟨rfl, hl⟩ | ⟨b, cap, _, rfl, _⟩
  · have hl0 : l = [] := List.eq_nil_of_length_eq_zero hl
    subst hl0
    have HX : Aside0 (w.ownsRow 0 5 1 (.slice none 0 0) ([] : List Int).length (nums .u8 (increase [] p))) := ⟨by
      rw [HC.out]
      have : k0 = 0 := by rw [hk0]; simp
      rw [this]; exact h⟩
    have hp0 : (p : Int) / 8 = 0 := by simp at hp; omega
    clear h hl hR HC hc0 hk0 hpow
    go_enter Try.func98, Try.ntmps98
    go_wp2
    go_loopg [5] 0 (fun k u5 wr => wr = w ∧ u5 = .int .i64 (-1))
    case atStart => exact ⟨rfl, by go_num⟩
    case round =>
      obtain ⟨rfl, rfl⟩ := hrel
      go_wp2
      go_returns
      exact ⟨rfl, HX.out, Chg.refl _ _⟩
  · have hk1 : (l.length : Int) - 1 - p / 8 = k0 - 1 := by omega
    have HS : Aside0 (w.ownsRow 0 5 1 (.slice (some ⟨b, 0, none⟩) l.length cap) l.length (nums .u8 l) ∧ Bytes l) := ⟨h, hb⟩
    have hk2 : k0 ≤ l.length := by omega
    generalize hN : l.length = N at *
    have HN := Aside0.mk hN
    clear h hb hR hc0 hk0 hN
    go_enter Try.func98, Try.ntmps98
    go_wp2
    go_loopg [4, 5] k0 (fun k u4 u5 wr => ∃ (l' : List Int) (c : Int), u4 = .int .i64 c ∧ u5 = .int .i64 ((k : Int) - 1) ∧ k ≤ N ∧ 0 ≤ c ∧ c ≤ 128 ∧ Aside0 (incN l' c k = incN l c0 k0 ∧ l'.length = N ∧ Bytes l' ∧ wr.ownsRow 0 5 1 (.slice (some ⟨b, 0, none⟩) N cap) N (nums .u8 l') ∧ Chg w wr (blkOf (.slice (some ⟨b, 0, none⟩) N cap))))
    case atStart => exact ⟨l, c0, by rw [hw], by go_num, hk2, by omega, by omega, ⟨rfl, HN.out, HS.out.2, HS.out.1, Chg.refl _ _⟩⟩
    case round =>
      clear hk1 hw
      obtain ⟨l', c, rfl, rfl, hkN, hc1, hc2, HR⟩ := hrel
      cases gk with
      | zero =>
        have HX : Aside0 (wr.ownsRow 0 5 1 (.slice (some ⟨b, 0, none⟩) N cap) N (nums .u8 (increase l p)) ∧ Chg w wr (blkOf (.slice (some ⟨b, 0, none⟩) N cap))) := ⟨by rw [HC.out, ← HR.out.1]; exact HR.out.2.2.2.1, HR.out.2.2.2.2⟩
        clear HR
        go_wp2
        go_returns
        exact ⟨rfl, HX.out⟩
      | succ k =>
        by_cases hcc : 0 < c
        · obtain ⟨ck, fk⟩ := own_at HR.out.2.2.2.1 (k : Int) (by omega) (by omega)
          simp only [Int.toNat_natCast] at ck fk
          obtain ⟨rb1, rb2⟩ := HR.out.2.2.1.at_ (k : Int) (by omega) (by rw [HR.out.2.1]; omega)
          have HX : Aside0 (incN (l'.set k ((c + rd l' k) % 256)) ((c + rd l' k) / 256) k = incN l c0 k0 ∧ (l'.set k ((c + rd l' k) % 256)).length = N ∧ Bytes (l'.set k ((c + rd l' k) % 256)) ∧
              (wr.setCell ⟨b, k, none⟩ (.int .u8 ((c + rd l' k) % 256))).ownsRow 0 5 1 (.slice (some ⟨b, 0, none⟩) N cap) N (nums .u8 (l'.set k ((c + rd l' k) % 256))) ∧
              Chg w (wr.setCell ⟨b, k, none⟩ (.int .u8 ((c + rd l' k) % 256))) (blkOf (.slice (some ⟨b, 0, none⟩) N cap))) := by
            obtain ⟨h1, h2, h3, h4, h5⟩ := HR.out
            refine ⟨by rw [← h1, incN_go _ _ _ hcc], by simp [h2], h3.set _ _ (by omega), ?_, h5.setCell (p := ⟨b, k, none⟩) (.inl rfl) _⟩
            have := (own_store h4 (k : Int) ((c + rd l' k) % 256)).1
            simpa only [Int.toNat_natCast] using this
          clear HR
          go_wp2
          go_roundg k
          case measure => omega
          case rel => exact ⟨_, _, by go_num, by go_num, by omega, by omega, by omega, HX⟩
        · have HX : Aside0 (wr.ownsRow 0 5 1 (.slice (some ⟨b, 0, none⟩) N cap) N (nums .u8 (increase l p)) ∧ Chg w wr (blkOf (.slice (some ⟨b, 0, none⟩) N cap))) := ⟨by rw [HC.out, ← HR.out.1, incN_stop _ _ _ hcc]; exact HR.out.2.2.2.1, HR.out.2.2.2.2⟩
          clear HR
          go_wp2
          go_returns
          exact ⟨rfl, HX.out⟩
end Go.Proofs.Ytiabenmgbikllaa.M

-- D0
namespace Go.Proofs.Ytiabenmgbikllaa.M
open Go.RowKit Go.Proofs.YtiabenmgbikllaaW.PrintWords Go.Proofs.YtiabenmgbikllaaW.PrintLast Go.Proofs.YtiabenmgbikllaaW.PrintMore Go.Proofs.Ytiabenmgbikllaa.PAll

/-- A reader. -/
structure D where
  b : List Int
  rng : Int
  val : Int
  last : Int
  front : Int
  back : Int
  window : Int
  waiting : Int
  count : Int
  bad : Bool

def D.nextV (d : D) : Int := if d.front ≥ d.b.length then 0 else rd d.b d.front
def D.nextF (d : D) : Int := if d.front ≥ d.b.length then d.front else d.front + 1
def D.step (d : D) : D := { d with rng := d.rng * 256, val := (d.val * 256 + 255 - (d.last * 256 + d.nextV) / 2 % 256) % 2147483648, last := d.nextV, front := d.nextF, count := d.count + 8 }
def D.normL : Nat → D → D
  | 0, d => d
  | k + 1, d => if d.rng ≤ 8388608 then D.normL k d.step else d
def D.norm (d : D) : D := D.normL 3 d
def D.choose (d : D) (ft : Int) : Int := ft - (if d.val / (d.rng / ft) + 1 ≤ ft then d.val / (d.rng / ft) + 1 else ft)
def D.take0 (d : D) (fl fh ft : Int) : D := { d with val := d.val - d.rng / ft * (ft - fh), rng := if 0 < fl then d.rng / ft * (fh - fl) else d.rng - d.rng / ft * (ft - fh) }
def D.take (d : D) (fl fh ft : Int) : D := (d.take0 fl fh ft).norm
/-- The symbol at a place. -/
def symIdx : List Int → Int → Nat
  | [], _ => 0
  | x :: l, f => if f ≥ 256 - x then symIdx l f + 1 else 0
def D.symV (d : D) (t : List Int) : Int := (symIdx t (d.choose 256) : Nat)
def D.sym (d : D) (t : List Int) : D := d.take (symLo t (d.symV t)) (symHi t (d.symV t)) 256

/-- The parts of a reader that a printed function hands back. -/
def D.tup (d : D) : Int × Int × Int × Int × Int × Int × Int × Int × Bool := (d.rng, d.val, d.last, d.front, d.back, d.window, d.waiting, d.count, d.bad)
/-- What holds of a reader at all times. -/
structure DBase (d : D) : Prop where
  bytes : Bytes d.b
  len : d.b.length ≤ 140737488355328
  l0 : 0 ≤ d.last
  l1 : d.last < 256
  f0 : 0 ≤ d.front
  f1 : d.front ≤ d.b.length
  c0 : -1152921504606846976 ≤ d.count
  c1 : d.count ≤ 1152921504606846976
theorem D.nextV_range (d : D) (h : DBase d) : 0 ≤ d.nextV ∧ d.nextV < 256 := by
  unfold D.nextV
  split
  · omega
  · exact h.bytes.at_ _ h.f0 (by omega)
theorem next_f (d : D) (h : DBase d) (r c : Int) :
    rc_Dec_next.f d.b r d.val d.last d.front d.back d.window d.waiting c d.bad = some (d.nextV, r, d.val, d.last, d.nextF, d.back, d.window, d.waiting, c, d.bad) := by
  have hf := h.f0
  have hl := h.len
  unfold rc_Dec_next.f D.nextV D.nextF
  by_cases hc : d.front ≥ d.b.length
  · rw [if_pos hc, if_pos hc, if_pos hc]
  · rw [if_neg hc, if_neg hc, if_neg hc]
    have e1 : wrap64 (d.front + 1) = d.front + 1 := by unfold wrap64; omega
    have e2 : wrap64 (d.front + 1 - 1) = d.front := by unfold wrap64; omega
    rw [e1, e2, if_pos hf, if_pos (by omega)]
    have hb := h.bytes.at_ d.front hf (by omega)
    rw [wraps_u64 _ hb.1 (by omega)]
theorem or_join (x y : Int) (hx0 : 0 ≤ x) (hx : x < 256) (hy0 : 0 ≤ y) (hy : y < 256) : bits .or .u64 (x * 256) y = x * 256 + y :=
  bits_join .u64 63 (by decide) wraps_u64 8 _ _ (by omega) (by omega) (by omega) hy0 (by omega) (by omega)
theorem and_255 (x : Int) (h0 : 0 ≤ x) (h1 : x < 1099511627776) : bits .and .u64 x 255 = x % 256 := bits_mask .u64 63 (by decide) wraps_u64 8 (by decide) x h0 (by omega)
/-- One round's number. -/
theorem val_f (v l x : Int) (hv0 : 0 ≤ v) (hv : v < 2147483648) (hl0 : 0 ≤ l) (hl : l < 256) (hx0 : 0 ≤ x) (hx : x < 256) :
    bits .and .u64 (IntKind.u64.wrap ((IntKind.u64.wrap ((IntKind.u64.wrap (v * 256)) + 255)) - (bits .and .u64 ((bits .or .u64 (IntKind.u64.wrap (l * 256)) x) / 2) 255))) 2147483647 = (v * 256 + 255 - (l * 256 + x) / 2 % 256) % 2147483648 := by
  rw [wraps_u64 (v * 256) (by omega) (by omega), wraps_u64 (v * 256 + 255) (by omega) (by omega), wraps_u64 (l * 256) (by omega) (by omega), or_join l x hl0 hl hx0 hx,
    and_255 _ (by omega) (by omega), wraps_u64 _ (by omega) (by omega), u64_code _ (by omega) (by omega)]
theorem D.step_base (d : D) (h : DBase d) (hc : d.count + 8 ≤ 1152921504606846976) : DBase d.step := by
  obtain ⟨h1, h2, h3, h4, h5, h6, h7, h8⟩ := h
  have hv := d.nextV_range ⟨h1, h2, h3, h4, h5, h6, h7, h8⟩
  have hf : 0 ≤ d.nextF ∧ d.nextF ≤ d.b.length := by unfold D.nextF; split <;> omega
  refine ⟨h1, h2, hv.1, hv.2, hf.1, hf.2, ?_, hc⟩
  show _ ≤ d.count + 8
  omega
theorem norm_l (j : Nat) : ∀ (k : Nat) (d : D), DBase d → d.count + 8 * j ≤ 1152921504606846976 → 1 ≤ d.rng → d.rng ≤ 2147483648 → 0 ≤ d.val → d.val < 2147483648 → 8388608 < d.rng * 256 ^ j → j < k →
    rc_Dec_normalise.l0 k d.b d.rng d.val d.last d.front d.back d.window d.waiting d.count d.bad = some (D.normL j d).tup := by
  induction j with
  | zero =>
    intro k d h hc r1 r2 v0 v1 hr hk
    obtain ⟨k, rfl⟩ : ∃ m, k = m + 1 := ⟨k - 1, by omega⟩
    simp only [rc_Dec_normalise.l0]
    rw [if_neg (by simp at hr; omega)]
    rfl
  | succ j ih =>
    intro k d h hc r1 r2 v0 v1 hr hk
    obtain ⟨k, rfl⟩ : ∃ m, k = m + 1 := ⟨k - 1, by omega⟩
    simp only [rc_Dec_normalise.l0]
    by_cases hs : d.rng ≤ 8388608
    · have hv := d.nextV_range h
      rw [if_pos hs, wraps_u64 (d.rng * 256) (by omega) (by omega), show wrap64 (d.count + 8) = d.count + 8 from by have := h.c0; unfold wrap64; omega, next_f d h]
      simp only [Option.bind_some]
      rw [val_f d.val d.last d.nextV v0 v1 h.l0 h.l1 hv.1 hv.2]
      have hd : D.normL (j + 1) d = D.normL j d.step := by show (if _ then _ else _) = _; rw [if_pos hs]
      rw [hd]
      refine ih k d.step (d.step_base h (by omega)) ?_ ?_ ?_ ?_ ?_ ?_ (by omega)
      · show d.count + 8 + 8 * (j : Int) ≤ _; omega
      · show 1 ≤ d.rng * 256; omega
      · show d.rng * 256 ≤ _; omega
      · show 0 ≤ (_ : Int) % 2147483648; omega
      · show (_ : Int) % 2147483648 < _; omega
      · show 8388608 < d.rng * 256 * 256 ^ j; rw [Int.mul_assoc, ← Int.pow_succ']; exact hr
    · have hd : D.normL (j + 1) d = d := by show (if _ then _ else _) = _; rw [if_neg hs]
      rw [if_neg hs, hd]
      rfl
end Go.Proofs.Ytiabenmgbikllaa.M

-- D1
namespace Go.Proofs.Ytiabenmgbikllaa.M
set_option linter.unusedVariables false
open Go.RowKit Go.Proofs.YtiabenmgbikllaaW.PrintWords Go.Proofs.YtiabenmgbikllaaW.PrintLast Go.Proofs.YtiabenmgbikllaaW.PrintMore Go.Proofs.Ytiabenmgbikllaa.PAll

/-- A reader as it stands between two calls. -/
structure DOk (d : D) : Prop extends DBase d where
  r1 : 8388608 < d.rng
  r2 : d.rng ≤ 2147483648
  v0 : 0 ≤ d.val
  v1 : d.val < d.rng
  k0 : 0 ≤ d.count
  k1 : d.count ≤ 1000000000000000000

theorem choose_range (v q ft : Int) (hq : 1 ≤ q) (hv : 0 ≤ v) (hft : 1 ≤ ft) : 0 ≤ ft - (if v / q + 1 ≤ ft then v / q + 1 else ft) ∧ ft - (if v / q + 1 ≤ ft then v / q + 1 else ft) < ft := by
  have h0 : 0 ≤ v / q := Int.ediv_nonneg hv (by omega)
  split <;> omega
/-- Where the chosen place lies below fh the code is at least so much; where it lies from fl on, below so much. -/
theorem choose_ge (v q ft fh : Int) (hq : 1 ≤ q) (hv : 0 ≤ v) (h : ft - (if v / q + 1 ≤ ft then v / q + 1 else ft) < fh) (hfh : fh ≤ ft) : q * (ft - fh) ≤ v := by
  have h0 : ft - fh ≤ v / q := by
    split at h <;> omega
  have h1 : q * (ft - fh) ≤ q * (v / q) := Int.mul_le_mul_of_nonneg_left h0 (by omega)
  have h2 : q * (v / q) ≤ v := Int.mul_ediv_self_le (by omega)
  omega
theorem choose_lt (v q ft fl : Int) (hq : 1 ≤ q) (h : fl ≤ ft - (if v / q + 1 ≤ ft then v / q + 1 else ft)) (hfl : 0 < fl) : v < q * (ft - fl) := by
  have h0 : v / q < ft - fl := by
    split at h <;> omega
  exact (Int.ediv_lt_iff_lt_mul (by omega)).1 h0 |> fun h => by rwa [Int.mul_comm] at h

theorem choose_f (d : D) (h : DOk d) (ft : Int) (f0 : 1 ≤ ft) (f1 : ft ≤ 32768) :
    rc_Dec_choose.f d.b d.rng d.val d.last d.front d.back d.window d.waiting d.count d.bad ft = some (d.choose ft, d.rng, d.val, d.last, d.front, d.back, d.window, d.waiting, d.count, d.bad) := by
  obtain ⟨p1, p2, _⟩ := take_facts d.rng ft 0 ft h.r1 h.r2 (by omega) (by omega) (by omega) f1
  have r2 := h.r2
  have v0 := h.v0
  have v1 := h.v1
  have r1 := h.r1
  unfold rc_Dec_choose.f
  rw [if_neg (by omega), Int.tdiv_eq_ediv_of_nonneg (by omega), wraps_u64 (d.rng / ft) (by omega) (by omega), if_neg (by omega), Int.tdiv_eq_ediv_of_nonneg v0]
  have a0 : 0 ≤ d.val / (d.rng / ft) := Int.ediv_nonneg v0 (by omega)
  have a1 : d.val / (d.rng / ft) ≤ d.val := Int.ediv_le_self _ v0
  rw [wraps_u64 (d.val / (d.rng / ft)) a0 (by omega), wraps_u64 (d.val / (d.rng / ft) + 1) (by omega) (by omega)]
  have e : mn (d.val / (d.rng / ft) + 1) ft = if d.val / (d.rng / ft) + 1 ≤ ft then d.val / (d.rng / ft) + 1 else ft := by
    unfold mn
    by_cases hc : ft < d.val / (d.rng / ft) + 1
    · rw [if_pos hc, if_neg (by omega)]
    · rw [if_neg hc, if_pos (by omega)]
  rw [e]
  have hr := choose_range d.val (d.rng / ft) ft p1 v0 f0
  rw [wraps_u64 _ hr.1 (by omega)]
  rfl

theorem normL_ok (j : Nat) : ∀ d : D, DBase d → d.count + 8 * j ≤ 1152921504606846976 → 1 ≤ d.rng → d.rng ≤ 2147483648 → 0 ≤ d.val → d.val < d.rng → 8388608 < d.rng * 256 ^ j →
    DBase (D.normL j d) ∧ 8388608 < (D.normL j d).rng ∧ (D.normL j d).rng ≤ 2147483648 ∧ 0 ≤ (D.normL j d).val ∧ (D.normL j d).val < (D.normL j d).rng ∧ d.count ≤ (D.normL j d).count ∧ (D.normL j d).count ≤ d.count + 8 * j := by
  induction j with
  | zero => intro d h hc r1 r2 v0 v1 hr; exact ⟨h, by simp at hr; exact hr, r2, v0, v1, Int.le_refl _, by show d.count ≤ d.count + 8 * 0; omega⟩
  | succ j ih =>
    intro d h hc r1 r2 v0 v1 hr
    by_cases hs : d.rng ≤ 8388608
    · have hd : D.normL (j + 1) d = D.normL j d.step := by show (if _ then _ else _) = _; rw [if_pos hs]
      have hv := d.nextV_range h
      rw [hd]
      have l0 := h.l0
      have l1 := h.l1
      obtain ⟨i1, i2, i3, i4, i5, i6, i7⟩ := ih d.step (d.step_base h (by omega)) (by show d.count + 8 + 8 * (j : Int) ≤ _; omega) (by show 1 ≤ d.rng * 256; omega) (by show d.rng * 256 ≤ _; omega) (by show 0 ≤ (_ : Int) % 2147483648; omega)
        (by show (d.val * 256 + 255 - (d.last * 256 + d.nextV) / 2 % 256) % 2147483648 < d.rng * 256; omega) (by show 8388608 < d.rng * 256 * 256 ^ j; rw [Int.mul_assoc, ← Int.pow_succ']; exact hr)
      have ec : d.step.count = d.count + 8 := rfl
      exact ⟨i1, i2, i3, i4, i5, by omega, by omega⟩
    · have hd : D.normL (j + 1) d = d := by show (if _ then _ else _) = _; rw [if_neg hs]
      rw [hd]
      exact ⟨h, by omega, r2, v0, v1, Int.le_refl _, by omega⟩

/-- A place is taken that is among those chosen. -/
structure InPlace (d : D) (fl fh ft : Int) : Prop where
  a0 : 0 ≤ fl
  a1 : fl < fh
  a2 : fh ≤ ft
  a3 : ft ≤ 32768
  lo : fl ≤ d.choose ft
  hi : d.choose ft < fh
theorem take0_ok (d : D) (h : DOk d) (fl fh ft : Int) (hp : InPlace d fl fh ft) :
    1 ≤ (d.take0 fl fh ft).rng ∧ (d.take0 fl fh ft).rng ≤ 2147483648 ∧ 0 ≤ (d.take0 fl fh ft).val ∧ (d.take0 fl fh ft).val < (d.take0 fl fh ft).rng ∧ DBase (d.take0 fl fh ft) := by
  obtain ⟨a0, a1, a2, a3, lo, hi⟩ := hp
  obtain ⟨p1, p2, p3, p4, p5, p6, p7, p8, p9⟩ := take_facts d.rng ft fl fh h.r1 h.r2 a0 a1 a2 a3
  have r2 := h.r2
  have v0 := h.v0
  have v1 := h.v1
  have g1 := choose_ge d.val (d.rng / ft) ft fh p1 v0 hi a2
  have hb : DBase (d.take0 fl fh ft) := ⟨h.bytes, h.len, h.l0, h.l1, h.f0, h.f1, h.c0, h.c1⟩
  by_cases hfl : 0 < fl
  · have g2 := choose_lt d.val (d.rng / ft) ft fl p1 lo hfl
    have er : (d.take0 fl fh ft).rng = d.rng / ft * (fh - fl) := by show (if _ then _ else _) = _; rw [if_pos hfl]
    have ev : (d.take0 fl fh ft).val = d.val - d.rng / ft * (ft - fh) := rfl
    have e2 : d.rng / ft * (ft - fl) = d.rng / ft * (ft - fh) + d.rng / ft * (fh - fl) := by rw [← Int.mul_add]; congr 1; omega
    rw [er, ev]
    refine ⟨by omega, by omega, by omega, by omega, hb⟩
  · have er : (d.take0 fl fh ft).rng = d.rng - d.rng / ft * (ft - fh) := by show (if _ then _ else _) = _; rw [if_neg hfl]
    have ev : (d.take0 fl fh ft).val = d.val - d.rng / ft * (ft - fh) := rfl
    rw [er, ev]
    refine ⟨by omega, by omega, by omega, by omega, hb⟩
theorem take_ok (d : D) (h : DOk d) (fl fh ft : Int) (hp : InPlace d fl fh ft) (hc : d.count ≤ 900000000000000000) : DOk (d.take fl fh ft) ∧ (d.take fl fh ft).count ≤ d.count + 24 ∧ (d.take fl fh ft).b = d.b := by
  obtain ⟨t1, t2, t3, t4, t5⟩ := take0_ok d h fl fh ft hp
  have ec : (d.take0 fl fh ft).count = d.count := rfl
  have k0 := h.k0
  obtain ⟨i1, i2, i3, i4, i5, i6, i7⟩ := normL_ok 3 (d.take0 fl fh ft) t5 (by omega) t1 t2 t3 t4 (by omega)
  refine ⟨⟨i1, i2, i3, i4, i5, ?_, ?_⟩, ?_, ?_⟩
  · show 0 ≤ (D.normL 3 (d.take0 fl fh ft)).count; omega
  · show (D.normL 3 (d.take0 fl fh ft)).count ≤ _; omega
  · show (D.normL 3 (d.take0 fl fh ft)).count ≤ _; omega
  · have : ∀ j e, (D.normL j e).b = e.b := by
      intro j
      induction j with
      | zero => intro e; rfl
      | succ j ih => intro e; show (if _ then _ else _ : D).b = _; split <;> first | (rw [ih]; rfl) | rfl
    exact this 3 _
theorem take_f (d : D) (h : DOk d) (fl fh ft : Int) (hp : InPlace d fl fh ft) (hc : d.count ≤ 900000000000000000) (k : Nat) (hk : 3 < k) :
    rc_Dec_take.f k d.b d.rng d.val d.last d.front d.back d.window d.waiting d.count d.bad fl fh ft = some (d.take fl fh ft).tup := by
  obtain ⟨t1, t2, t3, t4, t5⟩ := take0_ok d h fl fh ft hp
  obtain ⟨a0, a1, a2, a3, lo, hi⟩ := hp
  obtain ⟨p1, p2, p3, p4, p5, p6, p7, p8, p9⟩ := take_facts d.rng ft fl fh h.r1 h.r2 a0 a1 a2 a3
  have r2 := h.r2
  have v0 := h.v0
  have v1 := h.v1
  have g1 := choose_ge d.val (d.rng / ft) ft fh p1 v0 hi a2
  have hn := norm_l 3 k (d.take0 fl fh ft) t5 (by show d.count + _ ≤ _; omega) t1 t2 t3 (by omega) (by omega) hk
  unfold rc_Dec_take.f
  have r1 := h.r1
  rw [if_neg (by omega), Int.tdiv_eq_ediv_of_nonneg (by omega), wraps_u64 (d.rng / ft) (by omega) (by omega), wraps_u64 (ft - fh) (by omega) (by omega), wraps_u64 (d.rng / ft * (ft - fh)) (by omega) (by omega),
    wraps_u64 (d.val - d.rng / ft * (ft - fh)) (by omega) (by omega)]
  have ev : (d.take0 fl fh ft).val = d.val - d.rng / ft * (ft - fh) := rfl
  by_cases hfl : 0 < fl
  · have er : (d.take0 fl fh ft).rng = d.rng / ft * (fh - fl) := by show (if _ then _ else _) = _; rw [if_pos hfl]
    rw [er, ev] at hn
    rw [if_pos (by omega), wraps_u64 (fh - fl) (by omega) (by omega), wraps_u64 (d.rng / ft * (fh - fl)) (by omega) (by omega)]
    unfold rc_Dec_normalise.f
    rw [show rc_Dec_normalise.l0 k d.b (d.rng / ft * (fh - fl)) (d.val - d.rng / ft * (ft - fh)) d.last d.front d.back d.window d.waiting d.count d.bad = _ from hn]
    rfl
  · have er : (d.take0 fl fh ft).rng = d.rng - d.rng / ft * (ft - fh) := by show (if _ then _ else _) = _; rw [if_neg hfl]
    rw [er, ev] at hn
    rw [if_neg (by omega), wraps_u64 (d.rng - d.rng / ft * (ft - fh)) (by omega) (by omega)]
    unfold rc_Dec_normalise.f
    rw [show rc_Dec_normalise.l0 k d.b (d.rng - d.rng / ft * (ft - fh)) (d.val - d.rng / ft * (ft - fh)) d.last d.front d.back d.window d.waiting d.count d.bad = _ from hn]
    rfl

/-- Where a symbol stands: the first whose number is below. -/
theorem symIdx_at (f : Int) : ∀ (t : List Int) (h : symIdx t f < t.length), f < 256 - t[symIdx t f] ∧ ∀ j : Nat, (hj : j < symIdx t f) → 256 - t[j]'(by omega) ≤ f
  | [], h => absurd h (by simp)
  | x :: l, h => by
    unfold symIdx at h ⊢
    by_cases hx : f ≥ 256 - x
    · simp only [if_pos hx] at h ⊢
      have hl : symIdx l f < l.length := by simpa using h
      obtain ⟨i1, i2⟩ := symIdx_at f l hl
      refine ⟨by simpa using i1, fun j hj => ?_⟩
      match j, hj with
      | 0, _ => simpa using hx
      | j + 1, hj => simpa using i2 j (by omega)
    · simp only [if_neg hx] at h ⊢
      exact ⟨by simp; omega, fun j hj => absurd hj (by omega)⟩
theorem symIdx_lt (f : Int) (f1 : f < 256) : ∀ (t : List Int), (hn : 0 < t.length) → t.getD (t.length - 1) 0 = 0 → symIdx t f < t.length
  | [x], _, h => by
    have hx : x = 0 := by simpa using h
    unfold symIdx
    rw [if_neg (by omega)]
    simp
  | x :: y :: l, _, h => by
    have ih := symIdx_lt f f1 (y :: l) (by simp) (by simpa using h)
    unfold symIdx
    split
    · simp only [List.length_cons] at ih ⊢; omega
    · simp
theorem sym_place (d : D) (h : DOk d) (t : List Int) (ht : TabOk t) (hn : 0 < t.length) : symIdx t (d.choose 256) < t.length ∧ InPlace d (symLo t (d.symV t)) (symHi t (d.symV t)) 256 := by
  obtain ⟨p1, _⟩ := take_facts d.rng 256 0 256 h.r1 h.r2 (by omega) (by omega) (by omega) (by omega)
  have hf := choose_range d.val (d.rng / 256) 256 p1 h.v0 (by omega)
  have hK := symIdx_lt (d.choose 256) hf.2 t hn ht.last
  obtain ⟨s1, s2⟩ := symIdx_at (d.choose 256) t hK
  obtain ⟨q1, q2, q3⟩ := ht.place (d.symV t) (Int.natCast_nonneg _) (by unfold D.symV; omega)
  have e1 : rd t (d.symV t) = t[symIdx t (d.choose 256)] := by simp [rd, D.symV, hK]
  refine ⟨hK, q1, q2, q3, by omega, ?_, ?_⟩
  · unfold symLo
    split
    · rename_i hs
      have hs' : 0 < symIdx t (d.choose 256) := by unfold D.symV at hs; omega
      have := s2 (symIdx t (d.choose 256) - 1) (by omega)
      have e2 : rd t (d.symV t - 1) = t[symIdx t (d.choose 256) - 1]'(by omega) := by
        have e3 : (d.symV t - 1).toNat = symIdx t (d.choose 256) - 1 := by unfold D.symV; omega
        have hlt : symIdx t (d.choose 256) - 1 < t.length := by omega
        simp [rd, e3, hlt]
      rw [e2]
      exact this
    · exact hf.1
  · unfold symHi
    rw [e1]
    exact s1
theorem sym_l (d : D) (h : DOk d) (t : List Int) (ht : TabOk t) (hn : 0 < t.length) (hc : d.count ≤ 900000000000000000) (m : Nat) : ∀ (k i : Nat), i + m = symIdx t (d.choose 256) → m + 4 < k →
    rc_Dec_Symbol.l0 k t (d.choose 256) i (if 0 < i then 256 - rd t ((i : Int) - 1) else 0) d.b d.rng d.val d.last d.front d.back d.window d.waiting d.count d.bad =
      some (d.symV t, (d.sym t).rng, (d.sym t).val, (d.sym t).last, (d.sym t).front, (d.sym t).back, (d.sym t).window, (d.sym t).waiting, (d.sym t).count, (d.sym t).bad) := by
  obtain ⟨hK, hp⟩ := sym_place d h t ht hn
  obtain ⟨s1, s2⟩ := symIdx_at (d.choose 256) t hK
  have hlen := ht.len
  induction m with
  | zero =>
    intro k i hi hk
    obtain ⟨k, rfl⟩ : ∃ m, k = m + 1 := ⟨k - 1, by omega⟩
    have hi' : (i : Int) = d.symV t := by unfold D.symV; omega
    have hr := ht.rd_range i (by omega) (by omega)
    have e1 : rd t (i : Int) = t[symIdx t (d.choose 256)] := by rw [hi']; simp [rd, D.symV, hK]
    have ew : wrap64 (256 - rd t (i : Int)) = 256 - rd t (i : Int) := by unfold wrap64; omega
    simp only [rc_Dec_Symbol.l0]
    rw [if_pos (by omega), if_pos (by omega), ew, if_neg (by rw [e1]; omega)]
    have elo : (if 0 < i then 256 - rd t ((i : Int) - 1) else 0) = symLo t (d.symV t) := by
      unfold symLo
      rw [← hi']
      by_cases h0 : 0 < i
      · rw [if_pos h0, if_pos (by omega)]
      · rw [if_neg h0, if_neg (by omega)]
    have ehi : 256 - rd t (i : Int) = symHi t (d.symV t) := by unfold symHi; rw [hi']
    have p0 := hp.a0
    have p1 := hp.a1
    have p2 := hp.a2
    rw [elo, ehi, wraps_u64 _ p0 (by omega), wraps_u64 _ (by omega) (by omega), take_f d h _ _ 256 hp hc k (by omega), hi']
    rfl
  | succ m ih =>
    intro k i hi hk
    obtain ⟨k, rfl⟩ : ∃ m, k = m + 1 := ⟨k - 1, by omega⟩
    have hr := ht.rd_range i (by omega) (by omega)
    have ew : wrap64 (256 - rd t (i : Int)) = 256 - rd t (i : Int) := by unfold wrap64; omega
    have hlt : i < t.length := by omega
    have e1 : rd t (i : Int) = t[i] := by simp [rd, hlt]
    simp only [rc_Dec_Symbol.l0]
    rw [if_pos (by omega), if_pos (by omega), ew, if_pos (by rw [e1]; exact s2 i (by omega)), show wrap64 ((i : Int) + 1) = ((i + 1 : Nat) : Int) from by unfold wrap64; omega]
    have := ih k (i + 1) (by omega) (by omega)
    rw [if_pos (by omega)] at this
    rw [show (((i + 1 : Nat) : Int) - 1) = (i : Int) from by omega] at this
    exact this
theorem sym_f (d : D) (h : DOk d) (t : List Int) (ht : TabOk t) (hn : 0 < t.length) (hc : d.count ≤ 900000000000000000) :
    rc_Dec_Symbol.f 300 d.b d.rng d.val d.last d.front d.back d.window d.waiting d.count d.bad t =
      some (d.symV t, (d.sym t).rng, (d.sym t).val, (d.sym t).last, (d.sym t).front, (d.sym t).back, (d.sym t).window, (d.sym t).waiting, (d.sym t).count, (d.sym t).bad) := by
  obtain ⟨hK, hp⟩ := sym_place d h t ht hn
  obtain ⟨p1, _⟩ := take_facts d.rng 256 0 256 h.r1 h.r2 (by omega) (by omega) (by omega) (by omega)
  have hf := choose_range d.val (d.rng / 256) 256 p1 h.v0 (by omega)
  have hlen := ht.len
  unfold rc_Dec_Symbol.f
  rw [ht.good]
  simp only [Option.bind_some, if_true]
  rw [choose_f d h 256 (by omega) (by omega)]
  simp only [Option.bind_some]
  have hw : wrap64 (d.choose 256) = d.choose 256 := by
    have h1 : 0 ≤ d.choose 256 := hf.1
    have h2 : d.choose 256 < 256 := hf.2
    unfold wrap64; omega
  rw [hw]
  have := sym_l d h t ht hn hc (symIdx t (d.choose 256)) 300 0 (by omega) (by omega)
  simpa using this
theorem sym_ok (d : D) (h : DOk d) (t : List Int) (ht : TabOk t) (hn : 0 < t.length) (hc : d.count ≤ 900000000000000000) : DOk (d.sym t) ∧ (d.sym t).count ≤ d.count + 24 ∧ (d.sym t).b = d.b ∧ 0 ≤ d.symV t ∧ d.symV t < t.length := by
  obtain ⟨hK, hp⟩ := sym_place d h t ht hn
  obtain ⟨a, b, c⟩ := take_ok d h _ _ 256 hp hc
  exact ⟨a, b, c, Int.natCast_nonneg _, by unfold D.symV; omega⟩
end Go.Proofs.Ytiabenmgbikllaa.M
