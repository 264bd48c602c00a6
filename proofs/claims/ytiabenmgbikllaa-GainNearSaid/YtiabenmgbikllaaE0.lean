/- The writer of bits as it lies in memory, and the step that carries. Conditions: none. -/
import Derived.Test.YtiabenmgbikllaaB0
import Derived.Outline
import Derived.Handy
namespace Go.Proofs.Ytiabenmgbikllaa.M
open Go.RowKit Go.Proofs.YtiabenmgbikllaaW.PrintWords Go.Proofs.YtiabenmgbikllaaW.PrintLast Go.Proofs.YtiabenmgbikllaaW.PrintMore
attribute [local go_sem] max2_int min2_int max_two min_two max_three min_three max_four min_four

/-- A writer. -/
structure E where
  told : List Int
  val : Int
  rng : Int
  raw : List Int
  rawBits : Int
  count : Int

/-- The cells of a writer. -/
def ecells (vt vr : Value) (e : E) : Array Value := #[vt, .int .u64 e.val, .int .u64 e.rng, vr, .int .i64 e.rawBits, .int .i64 e.count]

/-- A writer lies in block g; it and its rows lie in the blocks of f. -/
structure EAt (w : World) (f : Nat → Prop) (g : Nat) (e : E) (vt vr : Value) : Prop where
  blk : w.heap[g]? = some (.cells (ecells vt vr e) 107 (0, 0))
  ot : w.ownsRow 0 5 1 vt e.told.length (nums .u8 e.told)
  orw : w.ownsRow 0 5 1 vr e.raw.length (nums .u8 e.raw)
  ne : NeRow vt vr
  hg : f g
  ht : ∀ k, vt.ownBlock = some k → f k
  hr : ∀ k, vr.ownBlock = some k → f k
  lt : Lt w f
section
variable {w : World} {f : Nat → Prop} {g : Nat} {e : E} {vt vr : Value}
theorem ecell (h : w.heap[g]? = some (.cells (ecells vt vr e) 107 (0, 0))) : w.cell? ⟨g, 0, none⟩ = some vt ∧ w.cell? ⟨g, 1, none⟩ = some (.int .u64 e.val) ∧ w.cell? ⟨g, 2, none⟩ = some (.int .u64 e.rng) ∧
    w.cell? ⟨g, 3, none⟩ = some vr ∧ w.cell? ⟨g, 4, none⟩ = some (.int .i64 e.rawBits) ∧ w.cell? ⟨g, 5, none⟩ = some (.int .i64 e.count) ∧ ∀ i, w.frozen? ⟨g, i, none⟩ = false :=
  ⟨blk_cell h 0, blk_cell h 1, blk_cell h 2, blk_cell h 3, blk_cell h 4, blk_cell h 5, fun i => blk_frozen h i⟩
theorem EAt.c0 (h : EAt w f g e vt vr) : w.cell? ⟨g, 0, none⟩ = some vt := blk_cell h.blk 0
theorem EAt.c1 (h : EAt w f g e vt vr) : w.cell? ⟨g, 1, none⟩ = some (.int .u64 e.val) := blk_cell h.blk 1
theorem EAt.c2 (h : EAt w f g e vt vr) : w.cell? ⟨g, 2, none⟩ = some (.int .u64 e.rng) := blk_cell h.blk 2
theorem EAt.c3 (h : EAt w f g e vt vr) : w.cell? ⟨g, 3, none⟩ = some vr := blk_cell h.blk 3
theorem EAt.c4 (h : EAt w f g e vt vr) : w.cell? ⟨g, 4, none⟩ = some (.int .i64 e.rawBits) := blk_cell h.blk 4
theorem EAt.c5 (h : EAt w f g e vt vr) : w.cell? ⟨g, 5, none⟩ = some (.int .i64 e.count) := blk_cell h.blk 5
theorem EAt.fz (h : EAt w f g e vt vr) (i : Nat) : w.frozen? ⟨g, i, none⟩ = false := blk_frozen h.blk i
end
def EncAt (w : World) (f : Nat → Prop) (g : Nat) (e : E) : Prop := ∃ vt vr, EAt w f g e vt vr

theorem EAt.tne {w : World} {f : Nat → Prop} {g : Nat} {e : E} {vt vr : Value} (h : EAt w f g e vt vr) : vt.ownBlock ≠ some g := fun k => own_ne h.ot h.blk (by decide) k.symm
theorem EAt.rne {w : World} {f : Nat → Prop} {g : Nat} {e : E} {vt vr : Value} (h : EAt w f g e vt vr) : vr.ownBlock ≠ some g := fun k => own_ne h.orw h.blk (by decide) k.symm
theorem EncAt.chg {w w1 : World} {f S : Nat → Prop} {g : Nat} {e : E} (h : EncAt w f g e) (k : Chg w w1 S) (hd : Dj f S) : EncAt w1 f g e := by
  obtain ⟨vt, vr, h⟩ := h
  exact ⟨vt, vr, k.blk h.blk (hd g h.hg), k.own h.ot (fun b hb => hd b (h.ht b hb)), k.own h.orw (fun b hb => hd b (h.hr b hb)), h.ne, h.hg, h.ht, h.hr, h.lt.chg k⟩

/-- One is added to the number that the first n numbers are. -/
def carryN (l : List Int) : Nat → List Int
  | 0 => l
  | n + 1 => if (l.getD n 0 + 1) % 256 = 0 then carryN (l.set n 0) n else l.set n ((l.getD n 0 + 1) % 256)
theorem carryN_length (n : Nat) : ∀ l, (carryN l n).length = l.length := by
  induction n with
  | zero => intro l; rfl
  | succ n ih => intro l; unfold carryN; split <;> simp [ih]

/-- A number of what is told is written. -/
theorem EAt.tset {w : World} {f : Nat → Prop} {g b n cap : Nat} {e : E} {vr : Value} (h : EAt w f g e (.slice (some ⟨b, 0, none⟩) n cap) vr) (hl : e.told.length = n) (k : Nat) (x : Int) :
    EAt (w.setCell ⟨b, k, none⟩ (.int .u8 x)) f g { e with told := e.told.set k x } (.slice (some ⟨b, 0, none⟩) n cap) vr := by
  have hbg : b ≠ g := fun hh => h.tne (by rw [hh]; rfl)
  have ho := h.ot
  rw [hl] at ho
  have hs := (own_store ho (k : Int) x).1
  simp only [Int.toNat_natCast] at hs
  refine ⟨blk_far h.blk (fun hh => hbg hh.symm) _, ?_, own_setCell h.orw (fun hh => h.ne b rfl hh.symm) _, h.ne, h.hg, h.ht, h.hr, ?_⟩
  · show World.ownsRow _ 0 5 1 _ (e.told.set k x).length _
    rw [List.length_set, hl]
    exact hs
  · intro b' hb'
    have := h.lt b' hb'
    simpa [World.setCell] using this
theorem carryN_nil (l : List Int) (h : l = []) : carryN l l.length = l := by subst h; rfl
theorem carry_next (l : List Int) (k : Nat) (h : (rd l k + 1) % 256 = 0) : carryN l (k + 1) = carryN (l.set k 0) k := by
  show (if (l.getD k 0 + 1) % 256 = 0 then _ else _) = _
  have h' : (l.getD k 0 + 1) % 256 = 0 := h
  rw [if_pos h']
theorem carry_stop (l : List Int) (k : Nat) (h : ¬ (rd l k + 1) % 256 = 0) : carryN l (k + 1) = l.set k ((rd l k + 1) % 256) := by
  show (if (l.getD k 0 + 1) % 256 = 0 then _ else _) = _
  have h' : ¬ (l.getD k 0 + 1) % 256 = 0 := h
  rw [if_neg h']
  rfl

set_option maxHeartbeats 1000000 in
set_option maxRecDepth 100000 in
theorem carry_calls (w : World) (f : Nat → Prop) (g : Nat) (e : E) (h : EncAt w f g e) (hn : e.told.length ≤ 1099511627776) :
    Calls Try.prog 156 #[.pointer (some ⟨g, 0, none⟩)] w fun r w' => r = .returned (.tuple #[]) ∧ EncAt w' f g { e with told := carryN e.told e.told.length } ∧ Chg w w' f := by
  obtain ⟨vt, vr, h⟩ := h
  rcases h.ot.2 with ⟨hv, hl⟩ | ⟨b, cap, _, hv, _⟩
  · have hnil : e.told = [] := List.eq_nil_of_length_eq_zero hl
    have HE : Aside0 (EncAt w f g { e with told := carryN e.told e.told.length } ∧ Chg w w f) := ⟨⟨vt, vr, by rw [carryN_nil _ hnil]; exact h⟩, Chg.refl w f⟩
    subst hv
    have c0 := h.c0
    clear h hl hnil
    go_enter Try.func156, Try.ntmps156
    go_wp2
    go_loopg [2] 0 (fun k i wr => i = .int .i64 (-1) ∧ wr = w)
    case atStart => exact ⟨rfl, rfl⟩
    case round =>
      obtain ⟨rfl, rfl⟩ := hrel
      go_wp2
      go_end0
      exact ⟨rfl, HE.out⟩
  · subst hv
    have c0 := h.c0
    have H := Aside0.mk h
    clear h
    generalize hN : e.told.length = N at *
    have HN := Aside0.mk hN
    clear hN
    go_enter Try.func156, Try.ntmps156
    go_wp2
    go_loopg [2] N (fun k i wr => ∃ l, i = .int .i64 ((k : Int) - 1) ∧ k ≤ N ∧ Aside0 (l.length = N ∧ carryN l k = carryN e.told N ∧ EAt wr f g { e with told := l } (.slice (some ⟨b, 0, none⟩) N cap) vr ∧ Chg w wr f))
    case atStart => exact ⟨e.told, rfl, Nat.le_refl _, ⟨HN.out, rfl, H.out, Chg.refl w f⟩⟩
    case round =>
      obtain ⟨l, rfl, hk, HR⟩ := hrel
      clear c0
      obtain ⟨hl, hc, he, hch⟩ := HR.out
      have c0 := he.c0
      cases gk with
      | zero =>
        have HE : Aside0 (EncAt wr f g { e with told := carryN e.told N } ∧ Chg w wr f) := ⟨⟨_, vr, by rw [← hc]; exact he⟩, hch⟩
        clear hl hc he hch HR H
        go_wp2
        go_end0
        exact ⟨rfl, HE.out⟩
      | succ k =>
        have ho := he.ot
        simp only [hl] at ho
        obtain ⟨ck, fk⟩ := own_at ho (k : Int) (by omega) (by omega)
        simp only [Int.toNat_natCast] at ck fk
        have hst := own_store ho (k : Int) ((rd l k + 1) % 256)
        have HS := Aside0.mk hst
        have HH := Aside0.mk (show l.length = N ∧ carryN l (k + 1) = carryN e.told N ∧ EAt wr f g { e with told := l } (.slice (some ⟨b, 0, none⟩) N cap) vr ∧ Chg w wr f from ⟨hl, hc, he, hch⟩)
        have hbg : b ≠ g := fun hh => he.tne (by rw [hh]; rfl)
        have hgb : g ≠ b := fun hh => hbg hh.symm
        clear hl hc he hch HR H ho hst
        by_cases hz : (rd l k + 1) % 256 = 0
        · have hzb : ((rd l k + 1) % 256 != 0) = false := by simp [hz]
          have HZ := Aside0.mk hz
          clear hz
          go_wp2
          go_roundg k
          case measure => omega
          case rel =>
            obtain ⟨hl, hc, he, hch⟩ := HH.out
            exact ⟨l.set k 0, by go_num, by omega, ⟨by simp [hl], by rw [← hc, carry_next l k HZ.out], by have := he.tset hl k 0; rw [HZ.out]; exact this, hch.setCell (.inl (he.ht b rfl)) _⟩⟩
        · have hzb : ((rd l k + 1) % 256 != 0) = true := by simp [hz]
          have HZ := Aside0.mk hz
          clear hz
          go_wp2
          go_returns
          obtain ⟨hl, hc, he, hch⟩ := HH.out
          refine ⟨rfl, ⟨_, vr, by rw [← hc, carry_stop l k HZ.out]; exact he.tset hl k _⟩, hch.setCell (.inl (he.ht b rfl)) _⟩
end Go.Proofs.Ytiabenmgbikllaa.M
