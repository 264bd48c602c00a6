/- A power of two is added to a number of many bytes. Conditions: the slice's length; the power lies in it. -/
import Derived.Test.YtiabenmgbikllaaA1
import Derived.Handy
import Derived.Outline
namespace Go.Proofs.Ytiabenmgbikllaa.M
open Go.RowKit Go.Proofs.YtiabenmgbikllaaW.PrintWords Go.Proofs.YtiabenmgbikllaaW.PrintLast Go.Proofs.YtiabenmgbikllaaW.PrintMore
attribute [local go_sem] max2_int min2_int max_two min_two max_three min_three max_four min_four

/-- c is added to the number of the first k bytes. -/
def incN (l : List Int) (c : Int) : Nat → List Int
  | 0 => l
  | k + 1 => if 0 < c then incN (l.set k ((c + l.getD k 0) % 256)) ((c + l.getD k 0) / 256) k else l
theorem incN_length (k : Nat) : ∀ l c, (incN l c k).length = l.length := by
  induction k with
  | zero => intro l c; rfl
  | succ k ih => intro l c; unfold incN; split <;> simp [ih]
def increase (l : List Int) (p : Nat) : List Int := incN l (2 ^ (p % 8)) (l.length - p / 8)

/-- A slice that the call owns, in the blocks of f. -/
def Bytes (l : List Int) : Prop := ∀ x ∈ l, 0 ≤ x ∧ x < 256
theorem Bytes.at_ {l : List Int} (h : Bytes l) (k : Int) (h0 : 0 ≤ k) (h1 : k < l.length) : 0 ≤ rd l k ∧ rd l k < 256 := by
  have e : rd l k = l[k.toNat]'(by omega) := by simp [rd, show k.toNat < l.length by omega]
  rw [e]
  exact h _ (List.getElem_mem _)
theorem Bytes.set {l : List Int} (h : Bytes l) (k : Nat) (x : Int) (hx : 0 ≤ x ∧ x < 256) : Bytes (l.set k x) := by
  intro y hy
  rcases List.mem_or_eq_of_mem_set hy with hy | rfl
  · exact h y hy
  · exact hx

theorem incN_go (l : List Int) (c : Int) (k : Nat) (h : 0 < c) : incN l c (k + 1) = incN (l.set k ((c + rd l k) % 256)) ((c + rd l k) / 256) k := by
  show (if 0 < c then _ else _) = _
  rw [if_pos h]; rfl
theorem incN_stop (l : List Int) (c : Int) (k : Nat) (h : ¬ 0 < c) : incN l c k = l := by
  cases k with
  | zero => rfl
  | succ k => show (if 0 < c then _ else _) = _; rw [if_neg h]
theorem pow_range (p : Nat) : (1 : Int) ≤ 2 ^ (p % 8) ∧ (2 : Int) ^ (p % 8) ≤ 128 := by
  have h : p % 8 < 8 := Nat.mod_lt _ (by decide)
  generalize p % 8 = q at h
  have : q = 0 ∨ q = 1 ∨ q = 2 ∨ q = 3 ∨ q = 4 ∨ q = 5 ∨ q = 6 ∨ q = 7 := by omega
  rcases this with rfl | rfl | rfl | rfl | rfl | rfl | rfl | rfl <;> decide

set_option maxHeartbeats 1000000 in
set_option maxRecDepth 100000 in
theorem increase_calls (w : World) (v : Value) (l : List Int) (p : Nat) (h : w.ownsRow 0 5 1 v l.length (nums .u8 l)) (hb : Bytes l) (hp : p / 8 ≤ l.length) (hn : l.length ≤ 1099511627776) :
    Calls Try.prog 98 #[v, .int .i64 p] w fun r w' => r = .returned (.tuple #[]) ∧ w'.ownsRow 0 5 1 v l.length (nums .u8 (increase l p)) ∧ Chg w w' (blkOf v) := by
  have hpow := pow_range p
  obtain ⟨c0, hc0⟩ : ∃ c : Int, c = 2 ^ (p % 8) := ⟨_, rfl⟩
  have hw : wrap64 (2 ^ (p % 8)) = c0 := by rw [hc0]; exact IntWalk.wrap64_in _ (by omega)
  rw [← hc0] at hpow
  obtain ⟨k0, hk0⟩ : ∃ k : Nat, k = l.length - p / 8 := ⟨_, rfl⟩
  have hR : increase l p = incN l c0 k0 := by rw [increase, hc0, hk0]
  have HC := Aside0.mk hR
  rcases h.2 with ⟨rfl, hl⟩ | ⟨b, cap, _, rfl, _⟩
  · have hl0 : l = [] := List.eq_nil_of_length_eq_zero hl
    subst hl0
    have HX : Aside0 (w.ownsRow 0 5 1 (.slice none 0 0) ([] : List Int).length (nums .u8 (increase [] p))) := ⟨by
      rw [HC.out]
      have : k0 = 0 := by rw [hk0]; simp
      rw [this]; exact h⟩
    have hp0 : (p : Int) / 8 = 0 := by simp at hp; omega
    clear h hl hR HC hc0 hk0 hpow
    go_enter Try.func98, Try.ntmps98
    go_wp2
    go_loopg [5] 0 (fun k u5 wr => wr = w ∧ u5 = .int .i64 (-1))
    case atStart => exact ⟨rfl, by go_num⟩
    case round =>
      obtain ⟨rfl, rfl⟩ := hrel
      go_wp2
      go_returns
      exact ⟨rfl, HX.out, Chg.refl _ _⟩
  · have hk1 : (l.length : Int) - 1 - p / 8 = k0 - 1 := by omega
    have HS : Aside0 (w.ownsRow 0 5 1 (.slice (some ⟨b, 0, none⟩) l.length cap) l.length (nums .u8 l) ∧ Bytes l) := ⟨h, hb⟩
    have hk2 : k0 ≤ l.length := by omega
    generalize hN : l.length = N at *
    have HN := Aside0.mk hN
    clear h hb hR hc0 hk0 hN
    go_enter Try.func98, Try.ntmps98
    go_wp2
    go_loopg [4, 5] k0 (fun k u4 u5 wr => ∃ (l' : List Int) (c : Int), u4 = .int .i64 c ∧ u5 = .int .i64 ((k : Int) - 1) ∧ k ≤ N ∧ 0 ≤ c ∧ c ≤ 128 ∧ Aside0 (incN l' c k = incN l c0 k0 ∧ l'.length = N ∧ Bytes l' ∧ wr.ownsRow 0 5 1 (.slice (some ⟨b, 0, none⟩) N cap) N (nums .u8 l') ∧ Chg w wr (blkOf (.slice (some ⟨b, 0, none⟩) N cap))))
    case atStart => exact ⟨l, c0, by rw [hw], by go_num, hk2, by omega, by omega, ⟨rfl, HN.out, HS.out.2, HS.out.1, Chg.refl _ _⟩⟩
    case round =>
      clear hk1 hw
      obtain ⟨l', c, rfl, rfl, hkN, hc1, hc2, HR⟩ := hrel
      cases gk with
      | zero =>
        have HX : Aside0 (wr.ownsRow 0 5 1 (.slice (some ⟨b, 0, none⟩) N cap) N (nums .u8 (increase l p)) ∧ Chg w wr (blkOf (.slice (some ⟨b, 0, none⟩) N cap))) := ⟨by rw [HC.out, ← HR.out.1]; exact HR.out.2.2.2.1, HR.out.2.2.2.2⟩
        clear HR
        go_wp2
        go_returns
        exact ⟨rfl, HX.out⟩
      | succ k =>
        by_cases hcc : 0 < c
        · obtain ⟨ck, fk⟩ := own_at HR.out.2.2.2.1 (k : Int) (by omega) (by omega)
          simp only [Int.toNat_natCast] at ck fk
          obtain ⟨rb1, rb2⟩ := HR.out.2.2.1.at_ (k : Int) (by omega) (by rw [HR.out.2.1]; omega)
          have HX : Aside0 (incN (l'.set k ((c + rd l' k) % 256)) ((c + rd l' k) / 256) k = incN l c0 k0 ∧ (l'.set k ((c + rd l' k) % 256)).length = N ∧ Bytes (l'.set k ((c + rd l' k) % 256)) ∧
              (wr.setCell ⟨b, k, none⟩ (.int .u8 ((c + rd l' k) % 256))).ownsRow 0 5 1 (.slice (some ⟨b, 0, none⟩) N cap) N (nums .u8 (l'.set k ((c + rd l' k) % 256))) ∧
              Chg w (wr.setCell ⟨b, k, none⟩ (.int .u8 ((c + rd l' k) % 256))) (blkOf (.slice (some ⟨b, 0, none⟩) N cap))) := by
            obtain ⟨h1, h2, h3, h4, h5⟩ := HR.out
            refine ⟨by rw [← h1, incN_go _ _ _ hcc], by simp [h2], h3.set _ _ (by omega), ?_, h5.setCell (p := ⟨b, k, none⟩) (.inl rfl) _⟩
            have := (own_store h4 (k : Int) ((c + rd l' k) % 256)).1
            simpa only [Int.toNat_natCast] using this
          clear HR
          go_wp2
          go_roundg k
          case measure => omega
          case rel => exact ⟨_, _, by go_num, by go_num, by omega, by omega, by omega, HX⟩
        · have HX : Aside0 (wr.ownsRow 0 5 1 (.slice (some ⟨b, 0, none⟩) N cap) N (nums .u8 (increase l p)) ∧ Chg w wr (blkOf (.slice (some ⟨b, 0, none⟩) N cap))) := ⟨by rw [HC.out, ← HR.out.1, incN_stop _ _ _ hcc]; exact HR.out.2.2.2.1, HR.out.2.2.2.2⟩
          clear HR
          go_wp2
          go_returns
          exact ⟨rfl, HX.out⟩
end Go.Proofs.Ytiabenmgbikllaa.M
