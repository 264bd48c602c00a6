/- The writer of bits: what is told when the range is small (normalise). Conditions: bounds on the numbers. -/
import Derived.Test.YtiabenmgbikllaaE0
import Derived.Test.YtiabenmgbikllaaA1
import Derived.Outline
import Derived.Handy
namespace Go.Proofs.Ytiabenmgbikllaa.M
open Go.RowKit Go.Proofs.YtiabenmgbikllaaW.PrintWords Go.Proofs.YtiabenmgbikllaaW.PrintLast Go.Proofs.YtiabenmgbikllaaW.PrintMore
attribute [local go_sem] max2_int min2_int max_two min_two max_three min_three max_four min_four

def normL : Nat → E → E
  | 0, e => e
  | k + 1, e => if e.rng ≤ 8388608 then normL k { e with told := e.told ++ [e.val / 8388608 % 256], val := e.val * 256 % 2147483648, rng := e.rng * 256, count := e.count + 8 } else e
def norm0 (e : E) : E := if e.val ≤ 2147483647 then e else { e with told := carryN e.told e.told.length, val := e.val % 2147483648 }
def norm (e : E) : E := normL 3 (norm0 e)

theorem EAt.put {w : World} {f : Nat → Prop} {g : Nat} {e : E} {vt vr : Value} (h : EAt w f g e vt vr) (i : Nat) (u : Value) (e' : E) (ht : e'.told = e.told) (hr : e'.raw = e.raw)
    (hc : (ecells vt vr e).setIfInBounds i u = ecells vt vr e') : EAt (w.setCell ⟨g, i, none⟩ u) f g e' vt vr := by
  refine ⟨blk_put h.blk i u hc, ?_, ?_, h.ne, h.hg, h.ht, h.hr, ?_⟩
  · rw [ht]; exact own_setCell h.ot (fun hh => h.tne hh.symm) _
  · rw [hr]; exact own_setCell h.orw (fun hh => h.rne hh.symm) _
  · intro b hb
    have := h.lt b hb
    simpa [World.setCell] using this
theorem EAt.pval {w : World} {f : Nat → Prop} {g : Nat} {e : E} {vt vr : Value} (h : EAt w f g e vt vr) (x : Int) : EAt (w.setCell ⟨g, 1, none⟩ (.int .u64 x)) f g { e with val := x } vt vr := h.put 1 _ _ rfl rfl rfl
theorem EAt.prng {w : World} {f : Nat → Prop} {g : Nat} {e : E} {vt vr : Value} (h : EAt w f g e vt vr) (x : Int) : EAt (w.setCell ⟨g, 2, none⟩ (.int .u64 x)) f g { e with rng := x } vt vr := h.put 2 _ _ rfl rfl rfl
theorem EAt.pbits {w : World} {f : Nat → Prop} {g : Nat} {e : E} {vt vr : Value} (h : EAt w f g e vt vr) (x : Int) : EAt (w.setCell ⟨g, 4, none⟩ (.int .i64 x)) f g { e with rawBits := x } vt vr := h.put 4 _ _ rfl rfl rfl
theorem EAt.pcount {w : World} {f : Nat → Prop} {g : Nat} {e : E} {vt vr : Value} (h : EAt w f g e vt vr) (x : Int) : EAt (w.setCell ⟨g, 5, none⟩ (.int .i64 x)) f g { e with count := x } vt vr := h.put 5 _ _ rfl rfl rfl
theorem EAt.drew {w : World} {f : Nat → Prop} {g : Nat} {e : E} {vt vr : Value} (h : EAt w f g e vt vr) : EAt w.drew f g e vt vr := ⟨h.blk, h.ot, h.orw, h.ne, h.hg, h.ht, h.hr, h.lt⟩
theorem EAt.chg {w w1 : World} {f S : Nat → Prop} {g : Nat} {e : E} {vt vr : Value} (h : EAt w f g e vt vr) (k : Chg w w1 S) (hd : Dj f S) : EAt w1 f g e vt vr :=
  ⟨k.blk h.blk (hd g h.hg), k.own h.ot (fun b hb => hd b (h.ht b hb)), k.own h.orw (fun b hb => hd b (h.hr b hb)), h.ne, h.hg, h.ht, h.hr, h.lt.chg k⟩
/-- The row of what is told grows, or is made anew. -/
theorem EAt.told {w w1 : World} {f : Nat → Prop} {g : Nat} {e : E} {vt vr v1 : Value} {l : List Int} (h : EAt w f g e vt vr) (ho : w1.ownsRow 0 5 1 v1 l.length (nums .u8 l)) (hc : Chg w w1 (blkOf vt)) (hx : Ext w (blkOf vt) (blkOf v1)) :
    EAt (w1.setCell ⟨g, 0, none⟩ v1) (fun b => f b ∨ blkOf v1 b) g { e with told := l } v1 vr := by
  have hb1 : w1.heap[g]? = some (.cells (ecells vt vr e) 107 (0, 0)) := hc.blk h.blk h.tne
  have hr1 : w1.ownsRow 0 5 1 vr e.raw.length (nums .u8 e.raw) := hc.own h.orw (fun k hk hh => h.ne k hh hk)
  have n1 : v1.ownBlock ≠ some g := fun k => own_ne ho hb1 (by decide) k.symm
  have n2 : vr.ownBlock ≠ some g := h.rne
  refine ⟨blk_put hb1 0 v1 rfl, own_setCell ho (fun hh => n1 hh.symm) _, own_setCell hr1 (fun hh => n2 hh.symm) _, ?_, .inl h.hg, fun k hk => .inr hk, fun k hk => .inl (h.hr k hk), ?_⟩
  · intro k hk hk'
    rcases hx k hk with hh | hh
    · exact h.ne k hh hk'
    · have := h.lt k (h.hr k hk'); omega
  · intro b hb
    have hs : w1.heap.size = (w1.setCell ⟨g, 0, none⟩ v1).heap.size := by simp [World.setCell]
    rw [← hs]
    rcases hb with hb | hb
    · exact Nat.lt_of_lt_of_le (h.lt b hb) hc.size
    · exact own_lt ho b hb
theorem wraps_u64 (n : Int) (h₀ : 0 ≤ n) (h₁ : n < 2 ^ 63) : IntKind.u64.wrap n = n := by
  simp only [IntKind.wrap, IntKind.bits, IntKind.signed]
  simp
  omega
theorem u64_code (x : Int) (h₀ : 0 ≤ x) (h₁ : x < 1099511627776) : bits .and .u64 x 2147483647 = x % 2147483648 :=
  bits_mask .u64 63 (by decide) wraps_u64 31 (by decide) x h₀ (by omega)

theorem normL_stop (k : Nat) (e : E) (h : ¬ e.rng ≤ 8388608) : normL k e = e := by
  cases k with
  | zero => rfl
  | succ k => show (if _ then _ else _) = _; rw [if_neg h]
theorem normL_go (k : Nat) (e : E) (h : e.rng ≤ 8388608) : normL (k + 1) e = normL k { e with told := e.told ++ [e.val / 8388608 % 256], val := e.val * 256 % 2147483648, rng := e.rng * 256, count := e.count + 8 } := by
  show (if _ then _ else _) = _; rw [if_pos h]
theorem norm0_no (e : E) (h : e.val ≤ 2147483647) : norm0 e = e := if_pos h
theorem norm0_yes (e : E) (h : ¬ e.val ≤ 2147483647) : norm0 e = { e with told := carryN e.told e.told.length, val := e.val % 2147483648 } := if_neg h

/-- What the loop of 'normalise' keeps. -/
structure NInv (w wr : World) (f : Nat → Prop) (g : Nat) (er : E) (k : Nat) (e : E) (f' : Nat → Prop) (vt vr : Value) : Prop where
  at_ : EAt wr f' g e vt vr
  chg : Chg w wr f
  ext : Ext w f f'
  eq : normL k e = er
  r0 : 8388608 < e.rng * 256 ^ k
  r1 : 1 ≤ e.rng
  r2 : e.rng ≤ 2147483648
  v0 : 0 ≤ e.val
  v1 : e.val ≤ 2147483647
  n : e.told.length + k ≤ 1099511627776
  c0 : 0 ≤ e.count
  c1 : e.count + 8 * k ≤ 1152921504606846976

theorem NInv.step {w wr w1 : World} {f f' : Nat → Prop} {g : Nat} {er e : E} {k : Nat} {vt vr v1 : Value} (h : NInv w wr f g er (k + 1) e f' vt vr) (hr : e.rng ≤ 8388608)
    (ho : w1.ownsRow 0 5 1 v1 (e.told ++ [e.val / 8388608 % 256]).length (nums .u8 (e.told ++ [e.val / 8388608 % 256]))) (hc : Chg wr w1 (blkOf vt)) (hx : Ext wr (blkOf vt) (blkOf v1)) :
    NInv w ((((w1.setCell ⟨g, 0, none⟩ v1).setCell ⟨g, 1, none⟩ (.int .u64 (e.val * 256 % 2147483648))).setCell ⟨g, 2, none⟩ (.int .u64 (e.rng * 256))).setCell ⟨g, 5, none⟩ (.int .i64 (e.count + 8))) f g er k
      { e with told := e.told ++ [e.val / 8388608 % 256], val := e.val * 256 % 2147483648, rng := e.rng * 256, count := e.count + 8 } (fun b => f' b ∨ blkOf v1 b) v1 vr := by
  obtain ⟨h0, h1, h2, h3, h4, h5, h6, h7, h8, h9, h10, h11⟩ := h
  have hg := h2 g h0.hg
  refine ⟨(((h0.told ho hc hx).pval _).prng _).pcount _, ?_, ?_, ?_, ?_, ?_, ?_, ?_, ?_, ?_, ?_, ?_⟩
  · exact ((((h1.trans (hc.mono (fun b hb => h0.ht b hb)) h2).setCell hg _).setCell hg _).setCell hg _).setCell hg _
  · intro b hb
    rcases hb with hb | hb
    · exact h2 b hb
    · rcases hx b hb with hh | hh
      · exact h2 b (h0.ht b hh)
      · exact .inr (Nat.le_trans h1.size hh)
  · rw [← h3, normL_go _ _ hr]
  · show (8388608 : Int) < e.rng * 256 * 256 ^ k
    rw [Int.mul_assoc, ← Int.pow_succ']; exact h4
  · show 1 ≤ e.rng * 256; omega
  · show e.rng * 256 ≤ 2147483648; omega
  · show 0 ≤ e.val * 256 % 2147483648; omega
  · show e.val * 256 % 2147483648 ≤ 2147483647; omega
  · show (e.told ++ _).length + k ≤ _; simp; omega
  · show 0 ≤ e.count + 8; omega
  · show e.count + 8 + 8 * (k : Int) ≤ _; omega
theorem Chg.undrew {w w1 : World} {S : Nat → Prop} (h : Chg w.drew w1 S) : Chg w w1 S := ⟨h.os, h.tape, h.output, h.size, h.block⟩

set_option maxHeartbeats 1000000 in
set_option maxRecDepth 100000 in
theorem normalise_calls (w : World) (f : Nat → Prop) (g : Nat) (e : E) (h : EncAt w f g e) (r1 : 1 ≤ e.rng) (r2 : e.rng ≤ 2147483648) (v0 : 0 ≤ e.val) (v1 : e.val ≤ 4294967296) (hn : e.told.length ≤ 1000000000000) (c0 : 0 ≤ e.count) (c1 : e.count ≤ 1000000000000000000) :
    Calls Try.prog 147 #[.pointer (some ⟨g, 0, none⟩)] w fun r w' => r = .returned (.tuple #[]) ∧ ∃ f', EncAt w' f' g (norm e) ∧ Chg w w' f ∧ Ext w f f' := by
  have hand := u64_code e.val v0 (by omega)
  obtain ⟨vt, vr, h⟩ := h
  have HE := Aside0.mk h
  have k1 := h.c1
  have k1f := h.fz 1
  clear h
  by_cases hv : e.val ≤ 2147483647
  case' pos =>
    have HI : Aside0 (NInv w w f g (norm e) 3 e f vt vr) := ⟨⟨HE.out, Chg.refl _ _, Ext.refl _ _, by rw [norm, norm0_no e hv], by omega, r1, r2, v0, hv, by omega, c0, by omega⟩⟩
    go_enter Try.func147, Try.ntmps147
    go_wp2
    clear k1 k1f hand
  case' neg =>
    go_enter Try.func147, Try.ntmps147
    go_wp2_with (go_at_call 156; refine (carry_calls _ f g e ⟨vt, vr, HE.out⟩ (by omega)).mono ?_; rintro r w1 ⟨rfl, ⟨vt1, vr1, he1⟩, ch1⟩; have k2 := he1.c1; have k2f := he1.fz 1; have HE1 := Aside0.mk (And.intro he1 ch1); clear he1 ch1)
    have HI : Aside0 (NInv w (w1.setCell ⟨g, 1, none⟩ (.int .u64 (e.val % 2147483648))) f g (norm e) 3 (norm0 e) f vt1 vr1) := by
      obtain ⟨he1, ch1⟩ := HE1.out
      rw [norm, norm0_yes e (by omega)]
      exact ⟨⟨he1.pval _, ch1.setCell (.inl he1.hg) _, Ext.refl _ _, rfl, by show (8388608:Int) < e.rng * 256 ^ 3; omega, r1, r2, by show 0 ≤ e.val % 2147483648; omega, by show e.val % 2147483648 ≤ 2147483647; omega, by rw [carryN_length]; omega, c0, by show e.count + _ ≤ _; omega⟩⟩
    clear k1 k1f hand k2 k2f
  all_goals
    go_loopg [] 3 (fun k wr => ∃ e' f' vt' vr', Aside0 (NInv w wr f g (norm e) k e' f' vt' vr'))
    case atStart => exact ⟨_, _, _, _, HI⟩
    case round =>
      clear HI
      obtain ⟨e', f', vt', vr', HR⟩ := hrel
      have k0 := HR.out.at_.c0
      have k1 := HR.out.at_.c1
      have k2 := HR.out.at_.c2
      have k5 := HR.out.at_.c5
      have z0 := HR.out.at_.fz 0
      have z1 := HR.out.at_.fz 1
      have z2 := HR.out.at_.fz 2
      have z5 := HR.out.at_.fz 5
      have b1 := HR.out.r1
      have b2 := HR.out.r2
      have b3 := HR.out.v0
      have b4 := HR.out.v1
      have b5 := HR.out.c0
      have b6 := HR.out.c1
      by_cases hr : e'.rng ≤ 8388608
      · cases gk with
        | zero => exact absurd HR.out.r0 (by simp; omega)
        | succ k =>
          have hw1 : IntKind.u64.wrap (e'.val * 256) = e'.val * 256 := wraps_u64 _ (by omega) (by omega)
          have hand := u64_code (e'.val * 256) (by omega) (by omega)
          have HO := Aside0.mk HR.out.at_.ot
          have hgs : g < wr.heap.size := HR.out.at_.lt g HR.out.at_.hg
          have hu : IntKind.u8.wrap (e'.val / 8388608) = e'.val / 8388608 % 256 := IntKind.wrap_u8 _
          have hlen : e'.told.length ≤ 1099511627775 := by have := HR.out.n; omega
          go_wp2
          go_region_law (
            refine app1s rfl (.tmp 25) (.tmp 32) 26 5 .u8 1 rfl Try.underlying26 info5 (by omega) vt' e'.told (e'.val / 8388608 % 256) wr.heap.size rfl rfl (by go_simp) (own_alloc HO.out _) (by omega) ?_
            intro v1 w1 ho hc hx
            have hc' := (((Chg.refl wr (blkOf vt')).alloc _).drew).trans hc (Ext.refl _ _)
            have hx' : Ext wr (blkOf vt') (blkOf v1) := hx.le (by simp)
            obtain ⟨A1, n1, hv1⟩ := own_slice ho
            rw [List.length_append, List.length_singleton] at hv1
            subst hv1
            have HN := Aside0.mk (HR.out.step hr ho hc' hx')
            obtain ⟨q0, q1, q2, _, _, q5, qf⟩ := ecell (hc'.blk HR.out.at_.blk HR.out.at_.tne)
            have qf0 := qf 0
            have qf1 := qf 1
            have qf2 := qf 2
            have qf5 := qf 5
            clear qf hc hx hc' hx' ho k0 k1 k2 k5 z0 z1 z2 z5 HO)
          all_goals
            go_wp2
            go_roundg k
            case measure => omega
            case rel => exact ⟨_, _, _, _, by assumption⟩
      · have HF : Aside0 (∃ f', EncAt wr f' g (norm e) ∧ Chg w wr f ∧ Ext w f f') := ⟨⟨f', ⟨vt', vr', by rw [← HR.out.eq, normL_stop _ _ hr]; exact HR.out.at_⟩, HR.out.chg, HR.out.ext⟩⟩
        go_wp2
        go_returns
        exact ⟨rfl, HF.out⟩
end Go.Proofs.Ytiabenmgbikllaa.M
