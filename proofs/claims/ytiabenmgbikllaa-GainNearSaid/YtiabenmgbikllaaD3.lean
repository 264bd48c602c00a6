/- The reader of bits is made; how much was read. Conditions: the length of its bytes. -/
import Derived.Test.YtiabenmgbikllaaD2
namespace Go.Proofs.Ytiabenmgbikllaa.M
set_option linter.unusedVariables false
open Go.RowKit Go.Proofs.YtiabenmgbikllaaW.PrintWords Go.Proofs.YtiabenmgbikllaaW.PrintLast Go.Proofs.YtiabenmgbikllaaW.PrintMore Go.Proofs.Ytiabenmgbikllaa.PAll
attribute [local go_sem] max2_int min2_int max_two min_two max_three min_three max_four min_four

/-- A reader ahead of its first byte. -/
def D.zero (b : List Int) : D := ⟨b, 128, 0, 0, 0, 0, 0, 0, 9, false⟩
def D.first (b : List Int) : D := { D.zero b with val := 127 - (D.zero b).nextV / 2, last := (D.zero b).nextV, front := (D.zero b).nextF }
def D.new (b : List Int) : D := (D.first b).norm
theorem zero_base (b : List Int) (hb : Bytes b) (hn : b.length ≤ 140737488355328) : DBase (D.zero b) :=
  ⟨hb, hn, by show (0:Int) ≤ 0; omega, by show (0:Int) < 256; omega, by show (0:Int) ≤ 0; omega, by show (0:Int) ≤ b.length; omega, by show _ ≤ (9:Int); omega, by show (9:Int) ≤ _; omega⟩
theorem first_base (b : List Int) (hb : Bytes b) (hn : b.length ≤ 140737488355328) : DBase (D.first b) := by
  have hv := (D.zero b).nextV_range (zero_base b hb hn)
  have hf : 0 ≤ (D.zero b).nextF ∧ (D.zero b).nextF ≤ b.length := by
    unfold D.nextF
    have e1 : (D.zero b).front = 0 := rfl
    have e2 : (D.zero b).b = b := rfl
    rw [e1, e2]
    split <;> omega
  exact ⟨hb, hn, hv.1, hv.2, hf.1, hf.2, by show _ ≤ (9:Int); omega, by show (9:Int) ≤ _; omega⟩
theorem new_ok (b : List Int) (hb : Bytes b) (hn : b.length ≤ 140737488355328) : DOk (D.new b) ∧ (D.new b).count ≤ 33 ∧ (D.new b).b = b := by
  have hv := (D.zero b).nextV_range (zero_base b hb hn)
  have er : (D.first b).rng = 128 := rfl
  have ev : (D.first b).val = 127 - (D.zero b).nextV / 2 := rfl
  have ec : (D.first b).count = 9 := rfl
  obtain ⟨i1, i2, i3, i4, i5, i6, i7⟩ := normL_ok 3 (D.first b) (first_base b hb hn) (by omega) (by omega) (by omega) (by omega) (by omega) (by omega)
  refine ⟨⟨i1, i2, i3, i4, i5, ?_, ?_⟩, ?_, ?_⟩
  · show 0 ≤ (D.normL 3 (D.first b)).count; omega
  · show (D.normL 3 (D.first b)).count ≤ _; omega
  · show (D.normL 3 (D.first b)).count ≤ _; omega
  · have : ∀ j e, (D.normL j e).b = e.b := by
      intro j
      induction j with
      | zero => intro e; rfl
      | succ j ih => intro e; show (if _ then _ else _ : D).b = _; split <;> first | (rw [ih]; rfl) | rfl
    exact this 3 _

set_option maxHeartbeats 1000000 in
set_option maxRecDepth 100000 in
theorem dnew_calls (w : World) (v : Value) (b : List Int) (h : Rd w .u8 v b) (hb : Bytes b) (hn : b.length ≤ 140737488351232) :
    Calls Try.prog 21 #[v] w fun r w' => ∃ w0 g, r = .returned (.pointer (some ⟨g, 0, none⟩)) ∧ DecAt w0 w' g (D.new b) ∧ Chg w w' No ∧ w.heap.size ≤ w0.heap.size := by
  have HR := Aside0.mk h
  clear h
  go_enter Try.func21, Try.ntmps21
  go_wp2_with (go_at_call 69; refine (clone_calls w v b HR.out (by omega)).mono ?_; rintro r w1 ⟨va, rfl, ho, hch, hge⟩; obtain ⟨A, c, rfl⟩ := own_slice ho; have HO := Aside0.mk (And.intro ho (And.intro hch hge)); clear ho hch hge)
  have HZ := Aside0.mk (zero_base b hb (by omega))
  have HF := Aside0.mk (first_base b hb (by omega))
  have HN := Aside0.mk (new_ok b hb (by omega))
  obtain ⟨x0, x1⟩ := (D.zero b).nextV_range HZ.out
  clear hb
  have HA : Aside0 (DecAt w1 (w1.alloc (.cells #[.slice A b.length c, .int .u64 128, .int .u64 0, .int .u64 0, .int .i64 0, .int .i64 0, .int .u64 0, .int .i64 0, .int .i64 9, .bool false] 91)) w1.heap.size (D.zero b)) :=
    ⟨⟨IsS91.new w1 w1 A c b 128 0 0 0 0 0 0 9 false (Below.refl _ _) (Kd.C_of_reads (d := 0) (readsInt_of.1 (own_reads' HO.out.1))), below_alloc (Below.refl _ _) _⟩⟩
  refine (rc_Dec_next.calls w1.heap.size b 128 0 0 0 0 0 0 9 false _ _ _ _ _ _ _ _ _ _ w1 _ HA.out.1 HA.out.2 (next_f (D.zero b) HZ.out 128 9)).mono ?_
  rintro r w2 ⟨rfl, h1, h2, h3⟩
  have h1' : DecAt w1 w2 w1.heap.size { D.zero b with front := (D.zero b).nextF } := ⟨h1, h2⟩
  obtain ⟨A2, c2, hb2, _, hr2⟩ := h1
  have q3 := cellS91_3 hb2
  have q2 := cellS91_2 hb2
  have z3 := blk_frozen hb2 3
  have z2 := blk_frozen hb2 2
  have H2 := Aside0.mk (And.intro h1' h3)
  clear h1' h2 h3 hb2 hr2
  go_wp2_with fail
  have H3 : Aside0 (DecAt w1 ((w2.setCell ⟨w1.heap.size, 3, none⟩ (.int .u64 (D.zero b).nextV)).setCell ⟨w1.heap.size, 2, none⟩ (.int .u64 (127 - (D.zero b).nextV / 2))) w1.heap.size (D.first b)) := by
    obtain ⟨⟨k1, k2⟩, k3⟩ := H2.out
    exact ⟨⟨(k1.set_3 _).set_2 _, (k2.setCell (Nat.le_refl _) _).setCell (Nat.le_refl _) _⟩⟩
  refine (rc_Dec_normalise.calls 4 w1.heap.size b _ _ _ _ _ _ _ _ _ _ _ _ _ _ _ _ _ _ w1 _ H3.out.1 H3.out.2 (norm_l 3 4 (D.first b) HF.out ?_ ?_ ?_ ?_ ?_ ?_ ?_)).mono ?_
  · show (9 : Int) + 8 * 3 ≤ _; omega
  · show (1 : Int) ≤ 128; omega
  · show (128 : Int) ≤ _; omega
  · show 0 ≤ 127 - (D.zero b).nextV / 2; omega
  · show 127 - (D.zero b).nextV / 2 < _; omega
  · show (8388608 : Int) < 128 * 256 ^ 3; omega
  · omega
  rintro r w3 ⟨rfl, h1, h2, h3⟩
  have H4 : Aside0 (DecAt w1 w3 w1.heap.size (D.new b) ∧ Chg w w3 No ∧ w.heap.size ≤ w1.heap.size) :=
    ⟨⟨by rw [HN.out.2.2]; exact h1, h2⟩, HO.out.2.1.trans (Chg.of_below h2 No) (Ext.refl _ _), HO.out.2.1.size⟩
  clear h1 h2 h3
  go_wp2_with fail
  go_returns
  exact ⟨w1, w1.heap.size, rfl, H4.out⟩

def D.tell (d : D) : Int := d.count - (Lib.bitLen d.rng.toNat : Int)
set_option maxHeartbeats 1000000 in
set_option maxRecDepth 100000 in
theorem dtell_calls (w0 w : World) (g : Nat) (d : D) (h : DecAt w0 w g d) (hd : DOk d) :
    Calls Try.prog 32 #[.pointer (some ⟨g, 0, none⟩)] w fun r w' => r = .returned (.int .i64 d.tell) ∧ ∃ n, w' = w.drewN n := by
  obtain ⟨⟨A, c, hb, _, _⟩, _⟩ := h
  have k8 := cellS91_8 hb
  have k1 := cellS91_1 hb
  have r1 := hd.r1
  have r2 := hd.r2
  have c0 := hd.k0
  have c1 := hd.k1
  have hl := bitLen_le d.rng.toNat
  clear hb hd
  go_enter Try.func32, Try.ntmps32
  go_wp2_with fail
  go_quiet ((go_at_call 82; exact Calls.quiet_of_same (Try.bits_Len64 d.rng _ (by omega) (by omega))))
  go_wp2
  go_returns
  exact ⟨rfl, _, rfl⟩
end Go.Proofs.Ytiabenmgbikllaa.M
