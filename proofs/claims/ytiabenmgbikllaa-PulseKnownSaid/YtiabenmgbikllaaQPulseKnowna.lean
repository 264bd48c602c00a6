/- Contracts of the program's functions and plain laws for the law PulseKnown, several texts in one (part 1); the program's functions as Lean functions came out of the kit's print. Conditions: each theorem's own. -/
import Derived.Test.YtiabenmgbikllaaProg
import Derived.Below
import Derived.Deep.Draws
import Derived.Deep.AppendLies
import Derived.Maps.AppendAt
import Derived.OwnWalk
import Derived.Laws.BytesArg
import Derived.Laws.MakeOwn
import Derived.Laws.OwnMore
import Derived.Deep.OwnRows
import Derived.Tactics
import Derived.Lib.ConvBytes
import Derived.Laws.Slices
import Derived.WalkKit
import Derived.KernelRfl
import Derived.RowKit3
import Derived.Deep.LoopGhost
import Derived.Deep.QuietTactic
import Derived.BigQuiet
import Derived.WideLaws
import Derived.Deep.DeepCutAuto
import Derived.Deep.CutBlock
import Derived.Deep.RegionHeld3
import Derived.Laws.Rows
import Derived.Lib.AppendStr
import Derived.ArgAppend
import Derived.Laws.IdiomCopy
import Derived.OrdersHeld
import Derived.Laws.BitsLemmas
import Derived.RowKit
import Derived.Test.YtiabenmgbikllaaWWords
import Derived.Test.YtiabenmgbikllaaWLast
import Derived.Test.YtiabenmgbikllaaWKept
import Derived.Test.YtiabenmgbikllaaWRepsOne
import Derived.Test.YtiabenmgbikllaaWMore
import Derived.Outline
import Derived.Handy
import Derived.Deep.RegionLaw
import Derived.Lib.LazyBuf
import Derived.Shelf.Small.Bits
import Derived.Shelf.Strconv.Itoa0
import Derived.Laws.EntriesVeiled
import Derived.Maps.RangeWalk
import Derived.Laws.CopyOwn
import Derived.StillTailTactics
import Derived.BigRegion
import Derived.Stop.Asserts
import Derived.ProofKit
import Derived.OpenShut
import Derived.ChangeOld
import Derived.SizedLaws
-- PAllx0
namespace Go.Proofs.Ytiabenmgbikllaa.PAll
open Go.RowKit Go.Proofs.YtiabenmgbikllaaW.PrintWords Go.Proofs.YtiabenmgbikllaaW.PrintLast Go.Proofs.YtiabenmgbikllaaW.PrintMore
attribute [local go_sem] max2_int min2_int max_two min_two max_three min_three max_four min_four   -- for this text's walks alone
set_option linter.unusedVariables false
set_option linter.unusedSimpArgs false

def errW : Option Int → Value
  | none => .nilIface
  | some c => .iface 0 (.int .i64 c)
theorem errW_none : errW none = .nilIface := rfl
theorem errW_some (c : Int) : errW (some c) = .iface 0 (.int .i64 c) := rfl

theorem info2 : (Try.prog.info? 2).map (fun i => (i.zero, i.size, i.bytes)) = some (some (.int .i64 0), 1, 8) := by kernel_rfl
-- the values' own types

end Go.Proofs.Ytiabenmgbikllaa.PAll

-- B0
namespace Go.Proofs.Ytiabenmgbikllaa.M
open Go.RowKit Go.Proofs.YtiabenmgbikllaaW.PrintWords Go.Proofs.YtiabenmgbikllaaW.PrintLast Go.Proofs.YtiabenmgbikllaaW.PrintMore

/-- All but the blocks of S stand; new blocks may have come. -/
structure Chg (w w' : World) (S : Nat → Prop) : Prop where
  os : w'.os = w.os
  tape : w'.tape = w.tape
  output : w'.output = w.output
  size : w.heap.size ≤ w'.heap.size
  block : ∀ i, i < w.heap.size → ¬ S i → w'.heap[i]? = w.heap[i]?

def No : Nat → Prop := fun _ => False
/-- The set f' holds what f held, or new blocks of w. -/
def Ext (w : World) (f f' : Nat → Prop) : Prop := ∀ k, f' k → f k ∨ w.heap.size ≤ k
/-- Two sets of blocks have none in common. -/
def Dj (f f' : Nat → Prop) : Prop := ∀ k, f k → ¬ f' k
/-- All blocks of the set are there. -/
def Lt (w : World) (f : Nat → Prop) : Prop := ∀ k, f k → k < w.heap.size
/-- All blocks of the set are from B on. -/
def Ge (B : Nat) (f : Nat → Prop) : Prop := ∀ k, f k → B ≤ k

section
variable {w w1 w2 w3 : World} {S S1 S2 f f1 f2 f' : Nat → Prop} {B g : Nat}
theorem Ext.refl (w : World) (f : Nat → Prop) : Ext w f f := fun _ h => .inl h
theorem Ext.trans (h : Ext w f f1) (hw : w.heap.size ≤ w1.heap.size) (k : Ext w1 f1 f2) : Ext w f f2 :=
  fun b hb => (k b hb).elim (h b) (fun h => .inr (Nat.le_trans hw h))
theorem Ext.le (k : Ext w1 f f1) (hw : w.heap.size ≤ w1.heap.size) : Ext w f f1 := (Ext.refl w f).trans hw k
theorem Ext.new (h : Ge w.heap.size f') : Ext w f f' := fun k hk => .inr (h k hk)
theorem Chg.refl (w : World) (S : Nat → Prop) : Chg w w S := ⟨rfl, rfl, rfl, Nat.le_refl _, fun _ _ _ => rfl⟩
theorem Chg.mono (h : Chg w w1 S) (hs : ∀ k, S k → S1 k) : Chg w w1 S1 := ⟨h.os, h.tape, h.output, h.size, fun i hi hn => h.block i hi (fun h' => hn (hs i h'))⟩
theorem Chg.trans (h : Chg w w1 S) (k : Chg w1 w2 S1) (hs : Ext w S S1) : Chg w w2 S :=
  ⟨k.os.trans h.os, k.tape.trans h.tape, k.output.trans h.output, Nat.le_trans h.size k.size, fun i hi hn =>
    (k.block i (Nat.lt_of_lt_of_le hi h.size) (fun h1 => (hs i h1).elim hn (fun h2 => absurd hi (by omega)))).trans (h.block i hi hn)⟩
theorem Chg.of_below (h : Below w.heap.size w w1) (S : Nat → Prop) : Chg w w1 S := ⟨h.os, h.tape, h.output, h.size, fun i hi _ => h.block i hi⟩
theorem Chg.below (h : Chg w w1 S) (hs : Ge B S) (hB : B ≤ w.heap.size) : Below B w w1 :=
  ⟨h.os, h.tape, h.output, h.size, fun i hi => h.block i (by omega) (fun h1 => by have := hs i h1; omega)⟩
theorem Chg.below_no (h : Chg w w1 No) : Below w.heap.size w w1 := h.below (fun _ h => h.elim) (Nat.le_refl _)
theorem Chg.then_below (h : Chg w w1 S) (k : Below w1.heap.size w1 w2) : Chg w w2 S := h.trans (Chg.of_below k No) (fun _ hk => hk.elim)
theorem Chg.alloc (h : Chg w w1 S) (o : Obj) : Chg w (w1.alloc o) S := h.then_below (below_alloc (Below.refl _ _) o)
theorem Chg.drew (h : Chg w w1 S) : Chg w w1.drew S := ⟨h.os, h.tape, h.output, h.size, h.block⟩
theorem Chg.drewN (h : Chg w w1 S) (n : Nat) : Chg w (w1.drewN n) S := ⟨h.os, h.tape, h.output, h.size, h.block⟩
theorem Chg.setCell (h : Chg w w1 S) {p : Addr} (hp : S p.block ∨ w.heap.size ≤ p.block) (u : Value) : Chg w (w1.setCell p u) S :=
  ⟨h.os, h.tape, h.output, by simpa [World.setCell] using h.size, fun i hi hn =>
    (Below.heap_setCell w1 p u i (fun e => by rw [e] at hi hn; rcases hp with hp | hp; exact hn hp; omega)).trans (h.block i hi hn)⟩
theorem Chg.grown {row : Option Nat} (h : Chg w w1 S) (hg : w1.grownBy w2 row) (hr : ∀ k, row = some k → S k ∨ w.heap.size ≤ k) : Chg w w2 S :=
  ⟨hg.os.trans h.os, hg.tape.trans h.tape, hg.output.trans h.output, Nat.le_trans h.size hg.size, fun i hi hn =>
    (hg.block i (Nat.lt_of_lt_of_le hi h.size) (fun e => (hr i e.symm).elim hn (fun h2 => absurd hi (by omega)))).trans (h.block i hi hn)⟩
/-- A state's call, as the print tells it. -/
theorem Chg.of_keep {w0 : World} {g : Nat} (h0 : Below w0.heap.size w0 w) (h1 : Below w0.heap.size w0 w1) (k : KeepBut w w1 g none) : Chg w w1 (fun b => b = g) :=
  ⟨h1.os.trans h0.os.symm, h1.tape.trans h0.tape.symm, h1.output.trans h0.output.symm, k.1, fun i hi hn => k.2 i hi hn (by simp)⟩
theorem Chg.blk {o : Obj} (h : Chg w w1 S) (hb : w.heap[g]? = some o) (hg : ¬ S g) : w1.heap[g]? = some o := (h.block g (blk_lt hb) hg).trans hb
theorem Chg.own {base : Nat} {e : TypeId} {size n : Nat} {v : Value} {xs : List Value} (h : Chg w w1 S) (ho : w.ownsRow base e size v n xs) (hg : ∀ k, v.ownBlock = some k → ¬ S k) : w1.ownsRow base e size v n xs :=
  own_move ho (fun k hk => h.block k (own_lt ho k hk) (hg k hk))
theorem Lt.chg (h : Lt w f) (k : Chg w w1 S) : Lt w1 f := fun b hb => Nat.lt_of_lt_of_le (h b hb) k.size
theorem Dj.ext (h : Dj f f2) (hl : Lt w f2) (k : Ext w f f1) : Dj f1 f2 := fun b h1 h2 => (k b h1).elim (fun h3 => h b h3 h2) (fun h3 => absurd (hl b h2) (by omega))
theorem Dj.symm (h : Dj f f1) : Dj f1 f := fun b h1 h2 => h b h2 h1
theorem Ge.ext (h : Ge B f) (hB : B ≤ w.heap.size) (k : Ext w f f1) : Ge B f1 := fun b hb => (k b hb).elim (h b) (Nat.le_trans hB)
end
end Go.Proofs.Ytiabenmgbikllaa.M

-- E0
namespace Go.Proofs.Ytiabenmgbikllaa.M
open Go.RowKit Go.Proofs.YtiabenmgbikllaaW.PrintWords Go.Proofs.YtiabenmgbikllaaW.PrintLast Go.Proofs.YtiabenmgbikllaaW.PrintMore
attribute [local go_sem] max2_int min2_int max_two min_two max_three min_three max_four min_four

/-- A writer. -/
structure E where
  told : List Int
  val : Int
  rng : Int
  raw : List Int
  rawBits : Int
  count : Int

/-- The cells of a writer. -/
def ecells (vt vr : Value) (e : E) : Array Value := #[vt, .int .u64 e.val, .int .u64 e.rng, vr, .int .i64 e.rawBits, .int .i64 e.count]

/-- A writer lies in block g; it and its rows lie in the blocks of f. -/
structure EAt (w : World) (f : Nat → Prop) (g : Nat) (e : E) (vt vr : Value) : Prop where
  blk : w.heap[g]? = some (.cells (ecells vt vr e) 107 (0, 0))
  ot : w.ownsRow 0 5 1 vt e.told.length (nums .u8 e.told)
  orw : w.ownsRow 0 5 1 vr e.raw.length (nums .u8 e.raw)
  ne : NeRow vt vr
  hg : f g
  ht : ∀ k, vt.ownBlock = some k → f k
  hr : ∀ k, vr.ownBlock = some k → f k
  lt : Lt w f
section
variable {w : World} {f : Nat → Prop} {g : Nat} {e : E} {vt vr : Value}
theorem ecell (h : w.heap[g]? = some (.cells (ecells vt vr e) 107 (0, 0))) : w.cell? ⟨g, 0, none⟩ = some vt ∧ w.cell? ⟨g, 1, none⟩ = some (.int .u64 e.val) ∧ w.cell? ⟨g, 2, none⟩ = some (.int .u64 e.rng) ∧
    w.cell? ⟨g, 3, none⟩ = some vr ∧ w.cell? ⟨g, 4, none⟩ = some (.int .i64 e.rawBits) ∧ w.cell? ⟨g, 5, none⟩ = some (.int .i64 e.count) ∧ ∀ i, w.frozen? ⟨g, i, none⟩ = false :=
  ⟨blk_cell h 0, blk_cell h 1, blk_cell h 2, blk_cell h 3, blk_cell h 4, blk_cell h 5, fun i => blk_frozen h i⟩
theorem EAt.c0 (h : EAt w f g e vt vr) : w.cell? ⟨g, 0, none⟩ = some vt := blk_cell h.blk 0
theorem EAt.c1 (h : EAt w f g e vt vr) : w.cell? ⟨g, 1, none⟩ = some (.int .u64 e.val) := blk_cell h.blk 1
theorem EAt.c2 (h : EAt w f g e vt vr) : w.cell? ⟨g, 2, none⟩ = some (.int .u64 e.rng) := blk_cell h.blk 2
theorem EAt.c3 (h : EAt w f g e vt vr) : w.cell? ⟨g, 3, none⟩ = some vr := blk_cell h.blk 3
theorem EAt.c4 (h : EAt w f g e vt vr) : w.cell? ⟨g, 4, none⟩ = some (.int .i64 e.rawBits) := blk_cell h.blk 4
theorem EAt.c5 (h : EAt w f g e vt vr) : w.cell? ⟨g, 5, none⟩ = some (.int .i64 e.count) := blk_cell h.blk 5
theorem EAt.fz (h : EAt w f g e vt vr) (i : Nat) : w.frozen? ⟨g, i, none⟩ = false := blk_frozen h.blk i
end
def EncAt (w : World) (f : Nat → Prop) (g : Nat) (e : E) : Prop := ∃ vt vr, EAt w f g e vt vr

theorem EAt.tne {w : World} {f : Nat → Prop} {g : Nat} {e : E} {vt vr : Value} (h : EAt w f g e vt vr) : vt.ownBlock ≠ some g := fun k => own_ne h.ot h.blk (by decide) k.symm
theorem EAt.rne {w : World} {f : Nat → Prop} {g : Nat} {e : E} {vt vr : Value} (h : EAt w f g e vt vr) : vr.ownBlock ≠ some g := fun k => own_ne h.orw h.blk (by decide) k.symm
theorem EncAt.chg {w w1 : World} {f S : Nat → Prop} {g : Nat} {e : E} (h : EncAt w f g e) (k : Chg w w1 S) (hd : Dj f S) : EncAt w1 f g e := by
  obtain ⟨vt, vr, h⟩ := h
  exact ⟨vt, vr, k.blk h.blk (hd g h.hg), k.own h.ot (fun b hb => hd b (h.ht b hb)), k.own h.orw (fun b hb => hd b (h.hr b hb)), h.ne, h.hg, h.ht, h.hr, h.lt.chg k⟩

/-- One is added to the number that the first n numbers are. -/
def carryN (l : List Int) : Nat → List Int
  | 0 => l
  | n + 1 => if (l.getD n 0 + 1) % 256 = 0 then carryN (l.set n 0) n else l.set n ((l.getD n 0 + 1) % 256)
theorem carryN_length (n : Nat) : ∀ l, (carryN l n).length = l.length := by
  induction n with
  | zero => intro l; rfl
  | succ n ih => intro l; unfold carryN; split <;> simp [ih]

/-- A number of what is told is written. -/
theorem EAt.tset {w : World} {f : Nat → Prop} {g b n cap : Nat} {e : E} {vr : Value} (h : EAt w f g e (.slice (some ⟨b, 0, none⟩) n cap) vr) (hl : e.told.length = n) (k : Nat) (x : Int) :
    EAt (w.setCell ⟨b, k, none⟩ (.int .u8 x)) f g { e with told := e.told.set k x } (.slice (some ⟨b, 0, none⟩) n cap) vr := by
  have hbg : b ≠ g := fun hh => h.tne (by rw [hh]; rfl)
  have ho := h.ot
  rw [hl] at ho
  have hs := (own_store ho (k : Int) x).1
  simp only [Int.toNat_natCast] at hs
  refine ⟨blk_far h.blk (fun hh => hbg hh.symm) _, ?_, own_setCell h.orw (fun hh => h.ne b rfl hh.symm) _, h.ne, h.hg, h.ht, h.hr, ?_⟩
  · show World.ownsRow _ 0 5 1 _ (e.told.set k x).length _
    rw [List.length_set, hl]
    exact hs
  · intro b' hb'
    have := h.lt b' hb'
    simpa [World.setCell] using this
theorem carryN_nil (l : List Int) (h : l = []) : carryN l l.length = l := by subst h; rfl
theorem carry_next (l : List Int) (k : Nat) (h : (rd l k + 1) % 256 = 0) : carryN l (k + 1) = carryN (l.set k 0) k := by
  show (if (l.getD k 0 + 1) % 256 = 0 then _ else _) = _
  have h' : (l.getD k 0 + 1) % 256 = 0 := h
  rw [if_pos h']
theorem carry_stop (l : List Int) (k : Nat) (h : ¬ (rd l k + 1) % 256 = 0) : carryN l (k + 1) = l.set k ((rd l k + 1) % 256) := by
  show (if (l.getD k 0 + 1) % 256 = 0 then _ else _) = _
  have h' : ¬ (l.getD k 0 + 1) % 256 = 0 := h
  rw [if_neg h']
  rfl

set_option maxHeartbeats 1000000 in
set_option maxRecDepth 100000 in
theorem carry_calls (w : World) (f : Nat → Prop) (g : Nat) (e : E) (h : EncAt w f g e) (hn : e.told.length ≤ 1099511627776) :
    Calls Try.prog 156 #[.pointer (some ⟨g, 0, none⟩)] w fun r w' => r = .returned (.tuple #[]) ∧ EncAt w' f g { e with told := carryN e.told e.told.length } ∧ Chg w w' f := by
  obtain ⟨vt, vr, h⟩ := h
  rcases h.ot.2 with ⟨hv, hl⟩ | ⟨b, cap, _, hv, _⟩
  · have hnil : e.told = [] := List.eq_nil_of_length_eq_zero hl
    have HE : Aside0 (EncAt w f g { e with told := carryN e.told e.told.length } ∧ Chg w w f) := ⟨⟨vt, vr, by rw [carryN_nil _ hnil]; exact h⟩, Chg.refl w f⟩
    subst hv
    have c0 := h.c0
    clear h hl hnil
    go_enter Try.func156, Try.ntmps156
    go_wp2
    go_loopg [2] 0 (fun k i wr => i = .int .i64 (-1) ∧ wr = w)
    case atStart => exact ⟨rfl, rfl⟩
    case round =>
      obtain ⟨rfl, rfl⟩ := hrel
      go_wp2
      go_end0
      exact ⟨rfl, HE.out⟩
  · subst hv
    have c0 := h.c0
    have H := Aside0.mk h
    clear h
    generalize hN : e.told.length = N at *
    have HN := Aside0.mk hN
    clear hN
    go_enter Try.func156, Try.ntmps156
    go_wp2
    go_loopg [2] N (fun k i wr => ∃ l, i = .int .i64 ((k : Int) - 1) ∧ k ≤ N ∧ Aside0 (l.length = N ∧ carryN l k = carryN e.told N ∧ EAt wr f g { e with told := l } (.slice (some ⟨b, 0, none⟩) N cap) vr ∧ Chg w wr f))
    case atStart => exact ⟨e.told, rfl, Nat.le_refl _, ⟨HN.out, rfl, H.out, Chg.refl w f⟩⟩
    case round =>
      obtain ⟨l, rfl, hk, HR⟩ := hrel
      clear c0
      obtain ⟨hl, hc, he, hch⟩ := HR.out
      have c0 := he.c0
      cases gk with
      | zero =>
        have HE : Aside0 (EncAt wr f g { e with told := carryN e.told N } ∧ Chg w wr f) := ⟨⟨_, vr, by rw [← hc]; exact he⟩, hch⟩
        clear hl hc he hch HR H
        go_wp2
        go_end0
        exact ⟨rfl, HE.out⟩
      | succ k =>
        have ho := he.ot
        simp only [hl] at ho
        obtain ⟨ck, fk⟩ := own_at ho (k : Int) (by omega) (by omega)
        simp only [Int.toNat_natCast] at ck fk
        have hst := own_store ho (k : Int) ((rd l k + 1) % 256)
        have HS := Aside0.mk hst
        have HH := Aside0.mk (show l.length = N ∧ carryN l (k + 1) = carryN e.told N ∧ EAt wr f g { e with told := l } (.slice (some ⟨b, 0, none⟩) N cap) vr ∧ Chg w wr f from ⟨hl, hc, he, hch⟩)
        have hbg : b ≠ g := fun hh => he.tne (by rw [hh]; rfl)
        have hgb : g ≠ b := fun hh => hbg hh.symm
        clear hl hc he hch HR H ho hst
        by_cases hz : (rd l k + 1) % 256 = 0
        · have hzb : ((rd l k + 1) % 256 != 0) = false := by simp [hz]
          have HZ := Aside0.mk hz
          clear hz
          go_wp2
          go_roundg k
          case measure => omega
          case rel =>
            obtain ⟨hl, hc, he, hch⟩ := HH.out
            exact ⟨l.set k 0, by go_num, by omega, ⟨by simp [hl], by rw [← hc, carry_next l k HZ.out], by have := he.tset hl k 0; rw [HZ.out]; exact this, hch.setCell (.inl (he.ht b rfl)) _⟩⟩
        · have hzb : ((rd l k + 1) % 256 != 0) = true := by simp [hz]
          have HZ := Aside0.mk hz
          clear hz
          go_wp2
          go_returns
          obtain ⟨hl, hc, he, hch⟩ := HH.out
          refine ⟨rfl, ⟨_, vr, by rw [← hc, carry_stop l k HZ.out]; exact he.tset hl k _⟩, hch.setCell (.inl (he.ht b rfl)) _⟩
end Go.Proofs.Ytiabenmgbikllaa.M

-- A1
namespace Go.Proofs.Ytiabenmgbikllaa.M
open Go.RowKit Go.Proofs.YtiabenmgbikllaaW.PrintWords Go.Proofs.YtiabenmgbikllaaW.PrintLast Go.Proofs.YtiabenmgbikllaaW.PrintMore

/-- The blocks of a slice's row. -/
def blkOf (v : Value) : Nat → Prop := fun b => v.ownBlock = some b
theorem blkOf_some {b k n c : Nat} (h : blkOf (.slice (some ⟨b, 0, none⟩) n c) k) : b = k := by simpa [blkOf, Value.ownBlock] using h
theorem Ext.slice {w : World} {S : Nat → Prop} {b n c : Nat} (h : w.heap.size ≤ b) : Ext w S (blkOf (.slice (some ⟨b, 0, none⟩) n c)) := fun k hk => .inr (by rw [← blkOf_some hk]; exact h)
theorem Ge.slice {B b n c : Nat} (h : B ≤ b) : Ge B (blkOf (.slice (some ⟨b, 0, none⟩) n c)) := fun k hk => by rw [← blkOf_some hk]; exact h

section
variable {P : Program} {ops : Array Oper} {rest : List Oper} {o : Oper} {a : Act} {Q : Exit → Act → World → Prop} {K : Act → World → Prop}
theorem app1 {W : World} (hgd : o.guard = none) (s x : Operand) (t e : TypeId) (k : IntKind) (bytes : Nat)
    (ho : o.op = .call { callee := .builtin .append, args := #[s, x], argTypes := #[t, t] })
    (ht : P.underlying t = some (.slice e)) (hinfo : (P.info? e).map (fun i => (i.zero, i.size, i.bytes)) = some (some (.int k 0), 1, bytes)) (hb0 : 0 < bytes)
    (v : Value) (xs : List Int) (y : Int) (hs : a.eval s = v) (hx : a.eval x = .slice (some ⟨W.heap.size, 0, none⟩) 1 1)
    (HO : W.ownsRow 0 e 1 v xs.length (nums k xs)) (hl : (xs.length + 1) * bytes ≤ 140737488355328)
    (h : ∀ v1 w1, w1.ownsRow 0 e 1 v1 (xs ++ [y]).length (nums k (xs ++ [y])) → Chg W w1 (blkOf v) → Ext W (blkOf v) (blkOf v1) → wpList P ops Q rest (a.put o.dst v1) w1) :
    wpList P ops Q (o :: rest) a (W.alloc (.cells #[.int k y] e)) :=
  print_append_num (w0 := W) 0 hgd s x t e k bytes ho ht hinfo hb0 v xs y hs hx HO (Below.refl 0 W) (Nat.zero_le _) hl
    fun v1 w1 hown _ hg hat => h v1 w1 hown ((Chg.refl W _).grown hg (fun _ hk => .inl hk)) (fun b hb => by
      rcases hat with hat | ⟨b', hb', hle⟩
      · exact .inl (hat.symm.trans hb)
      · exact .inr (by have : b = b' := by have := hb.symm.trans hb'; simpa using this
                       omega))

/-- As one operation of a region that draws: the one number lies at whatever address. -/
theorem app1s {W : World} (hg : o.guard = none) (s x : Operand) (t e : TypeId) (k : IntKind) (bytes : Nat)
    (ho : o.op = .call { callee := .builtin .append, args := #[s, x], argTypes := #[t, t] })
    (ht : P.underlying t = some (.slice e)) (hinfo : (P.info? e).map (fun i => (i.zero, i.size, i.bytes)) = some (some (.int k 0), 1, bytes)) (hb0 : 0 < bytes)
    (v : Value) (xs : List Int) (y : Int) (b : Nat) (hs : a.eval s = v) (hx : a.eval x = .slice (some ⟨b, 0, none⟩) 1 1) (hy : W.cell? ⟨b, 0, none⟩ = some (.int k y))
    (HO : W.ownsRow 0 e 1 v xs.length (nums k xs)) (hl : (xs.length + 1) * bytes ≤ 140737488355328)
    (h : ∀ v1 w1, w1.ownsRow 0 e 1 v1 (xs ++ [y]).length (nums k (xs ++ [y])) → Chg W w1 (blkOf v) → Ext W (blkOf v) (blkOf v1) → K (a.put o.dst v1) w1) :
    if Region.wanted o (yielded ops a.tmps) = true then Oper.wp P o a W K Q else K (a.put o.dst undef) W := by
  have hw : Region.wanted o (yielded ops a.tmps) = true := by simp [Region.wanted, hg]
  obtain ⟨i0, hi, hzz⟩ := Option.map_eq_some_iff.1 hinfo
  simp only [Prod.mk.injEq] at hzz
  obtain ⟨hz0, hz1, hz2⟩ := hzz
  have hlen : xs.length + 1 ≤ 140737488355328 := Nat.le_trans (Nat.le_mul_of_pos_right _ hb0) hl
  rw [if_pos hw]
  obtain ⟨v1, w1, hr, hown, hgr, _, hat⟩ := run_append_own_at (P := P) W 0 t o.type e i0 (.int k 0) 1 bytes ht hi hz0 hz1 hz2 rfl (by omega) v xs.length (nums k xs) HO ⟨b, 0, none⟩ 1 1 [.int k y] rfl
    (fun j u hj => by
      match j, hj with
      | 0, hj => simp at hj; subst hj; simpa [Addr.add] using hy) (by simp [Value.oneCell']) (by simp only [maxLen]; omega) hl (Nat.zero_le _)
  unfold Oper.wp execOp
  simp only [ho, resolve, invoke, builtin, Sem.run_bind, Sem.run_pure, Result.andThen_ok, List.map_toArray, List.map_cons, List.map_nil, hs, hx, hr]
  refine h v1 w1 (by simpa [nums] using hown) ((Chg.refl W _).grown hgr (fun _ hk => .inl hk)) (fun b hb => ?_)
  rcases hat with hat | hat
  · exact .inl (hat.symm.trans hb)
  · exact .inr (by have := hat.symm.trans hb
                   simp at this
                   omega)

/-- The same for several numbers that lie in one block. -/
theorem appNs {W : World} (hg : o.guard = none) (s x : Operand) (t e : TypeId) (k : IntKind) (bytes : Nat)
    (ho : o.op = .call { callee := .builtin .append, args := #[s, x], argTypes := #[t, t] })
    (ht : P.underlying t = some (.slice e)) (hinfo : (P.info? e).map (fun i => (i.zero, i.size, i.bytes)) = some (some (.int k 0), 1, bytes)) (hb0 : 0 < bytes)
    (v : Value) (xs ys : List Int) (b m c : Nat) (hs : a.eval s = v) (hx : a.eval x = .slice (some ⟨b, 0, none⟩) m c) (hm : ys.length = m) (hy : ∀ j, j < m → W.cell? ⟨b, j, none⟩ = some (.int k (ys.getD j 0)))
    (HO : W.ownsRow 0 e 1 v xs.length (nums k xs)) (hl : (xs.length + m) * bytes ≤ 140737488355328)
    (h : ∀ v1 w1, w1.ownsRow 0 e 1 v1 (xs ++ ys).length (nums k (xs ++ ys)) → Chg W w1 (blkOf v) → Ext W (blkOf v) (blkOf v1) → K (a.put o.dst v1) w1) :
    if Region.wanted o (yielded ops a.tmps) = true then Oper.wp P o a W K Q else K (a.put o.dst undef) W := by
  have hw : Region.wanted o (yielded ops a.tmps) = true := by simp [Region.wanted, hg]
  obtain ⟨i0, hi, hzz⟩ := Option.map_eq_some_iff.1 hinfo
  simp only [Prod.mk.injEq] at hzz
  obtain ⟨hz0, hz1, hz2⟩ := hzz
  have hlen : xs.length + m ≤ 140737488355328 := Nat.le_trans (Nat.le_mul_of_pos_right _ hb0) hl
  rw [if_pos hw]
  obtain ⟨v1, w1, hr, hown, hgr, _, hat⟩ := run_append_own_at (P := P) W 0 t o.type e i0 (.int k 0) 1 bytes ht hi hz0 hz1 hz2 rfl (by omega) v xs.length (nums k xs) HO ⟨b, 0, none⟩ m c (nums k ys) (by simp [nums, hm])
    (fun j u hj => by
      have hj' : j < ys.length := by have := (List.getElem?_eq_some_iff.1 hj).1; simpa [nums] using this
      rw [add_plain, hy j (by omega)]
      rw [← hj]
      simp [nums, List.getD, hj']) (by simp [nums, Value.oneCell']) (by simp only [maxLen]; omega) hl (Nat.zero_le _)
  unfold Oper.wp execOp
  simp only [ho, resolve, invoke, builtin, Sem.run_bind, Sem.run_pure, Result.andThen_ok, List.map_toArray, List.map_cons, List.map_nil, hs, hx, hr]
  refine h v1 w1 (by rw [List.length_append, hm, nums_append]; exact hown) ((Chg.refl W _).grown hgr (fun _ hk => .inl hk)) (fun b hb => ?_)
  rcases hat with hat | hat
  · exact .inl (hat.symm.trans hb)
  · exact .inr (by have := hat.symm.trans hb
                   simp at this
                   omega)

/-- append(v, ys...): ys a slice that is read. -/
theorem appRow {W : World} (hgd : o.guard = none) (s x : Operand) (t e : TypeId) (k : IntKind) (bytes : Nat)
    (ho : o.op = .call { callee := .builtin .append, args := #[s, x], argTypes := #[t, t] })
    (ht : P.underlying t = some (.slice e)) (hinfo : (P.info? e).map (fun i => (i.zero, i.size, i.bytes)) = some (some (.int k 0), 1, bytes)) (hb0 : 0 < bytes)
    (v : Value) (xs ys : List Int) (A : Option Addr) (m c : Nat) (hs : a.eval s = v) (hx : a.eval x = .slice A m c)
    (HO : W.ownsRow 0 e 1 v xs.length (nums k xs)) (HR : ReadsInt W k A m ys) (hl : (xs.length + m) * bytes ≤ 140737488355328)
    (h : ∀ v1 w1, w1.ownsRow 0 e 1 v1 (xs ++ ys).length (nums k (xs ++ ys)) → Chg W w1 (blkOf v) → Ext W (blkOf v) (blkOf v1) → wpList P ops Q rest (a.put o.dst v1) w1) :
    wpList P ops Q (o :: rest) a W :=
  print_append_row (w0 := W) 0 hgd s x t e k bytes ho ht hinfo hb0 v xs ys A m c hs hx HO HR (Below.refl 0 W) (Nat.zero_le _) hl
    fun v1 w1 hown _ hg hat => h v1 w1 hown ((Chg.refl W _).grown hg (fun _ hk => .inl hk)) (fun b hb => by
      rcases hat with hat | ⟨b', hb', hle⟩
      · exact .inl (hat.symm.trans hb)
      · exact .inr (by have : b = b' := by have := hb.symm.trans hb'; simpa using this
                       omega))
end
/-- A slice of whole numbers that may be read: nil, or its cells. -/
def Rd (w : World) (k : IntKind) (v : Value) (xs : List Int) : Prop :=
  (v = .slice none 0 0 ∧ xs = []) ∨ ∃ ad c, v = .slice (some ad) xs.length c ∧ xs.length ≤ c ∧ ReadsInt w k (some ad) xs.length xs
theorem Rd.to {w : World} {k : IntKind} {v : Value} {xs : List Int} (h : Rd w k v xs) : ∃ A c, v = .slice A xs.length c ∧ xs.length ≤ c ∧ ReadsInt w k A xs.length xs := by
  rcases h with ⟨hv, hx⟩ | ⟨ad, c, hv, hc, hr⟩
  · subst hx; exact ⟨none, 0, hv, Nat.le_refl _, ReadsInt.nil w k⟩
  · exact ⟨some ad, c, hv, hc, hr⟩
theorem Rd.own {w : World} {k : IntKind} {e : TypeId} {v : Value} {xs : List Int} (h : w.ownsRow 0 e 1 v xs.length (nums k xs)) : Rd w k v xs := by
  rcases h.2 with ⟨hv, hn⟩ | ⟨b, cap, cur, hv, _, _, hc, _⟩
  · exact .inl ⟨hv, List.eq_nil_of_length_eq_zero hn⟩
  · subst hv; exact .inr ⟨_, cap, rfl, hc, own_reads' h⟩
theorem Rd.chg {w w1 : World} {k : IntKind} {v : Value} {xs : List Int} {S : Nat → Prop} (h : Rd w k v xs) (hc : Chg w w1 S) (hd : ∀ b, blkOf v b → ¬ S b) : Rd w1 k v xs := by
  rcases h with h | ⟨ad, c, hv, hcc, hr⟩
  · exact .inl h
  · subst hv
    refine .inr ⟨ad, c, rfl, hcc, hr.1, hr.2.1, fun hn => ?_⟩
    obtain ⟨ad', ha, hx⟩ := hr.2.2 hn
    injection ha with ha
    subst ha
    refine ⟨ad, rfl, fun j hj => ?_⟩
    have h1 := hx j hj
    have hb : (ad.add j).block = ad.block := add_block ad j
    have := hc.block (ad.add j).block (World.block_lt_of_cell? w _ h1) (by rw [hb]; exact hd ad.block rfl)
    simpa [World.cell?, this] using h1
theorem info5 : (Try.prog.info? 5).map (fun i => (i.zero, i.size, i.bytes)) = some (some (.int .u8 0), 1, 1) := by kernel_rfl
end Go.Proofs.Ytiabenmgbikllaa.M

-- E1
namespace Go.Proofs.Ytiabenmgbikllaa.M
open Go.RowKit Go.Proofs.YtiabenmgbikllaaW.PrintWords Go.Proofs.YtiabenmgbikllaaW.PrintLast Go.Proofs.YtiabenmgbikllaaW.PrintMore
attribute [local go_sem] max2_int min2_int max_two min_two max_three min_three max_four min_four

def normL : Nat → E → E
  | 0, e => e
  | k + 1, e => if e.rng ≤ 8388608 then normL k { e with told := e.told ++ [e.val / 8388608 % 256], val := e.val * 256 % 2147483648, rng := e.rng * 256, count := e.count + 8 } else e
def norm0 (e : E) : E := if e.val ≤ 2147483647 then e else { e with told := carryN e.told e.told.length, val := e.val % 2147483648 }
def norm (e : E) : E := normL 3 (norm0 e)

theorem EAt.put {w : World} {f : Nat → Prop} {g : Nat} {e : E} {vt vr : Value} (h : EAt w f g e vt vr) (i : Nat) (u : Value) (e' : E) (ht : e'.told = e.told) (hr : e'.raw = e.raw)
    (hc : (ecells vt vr e).setIfInBounds i u = ecells vt vr e') : EAt (w.setCell ⟨g, i, none⟩ u) f g e' vt vr := by
  refine ⟨blk_put h.blk i u hc, ?_, ?_, h.ne, h.hg, h.ht, h.hr, ?_⟩
  · rw [ht]; exact own_setCell h.ot (fun hh => h.tne hh.symm) _
  · rw [hr]; exact own_setCell h.orw (fun hh => h.rne hh.symm) _
  · intro b hb
    have := h.lt b hb
    simpa [World.setCell] using this
theorem EAt.pval {w : World} {f : Nat → Prop} {g : Nat} {e : E} {vt vr : Value} (h : EAt w f g e vt vr) (x : Int) : EAt (w.setCell ⟨g, 1, none⟩ (.int .u64 x)) f g { e with val := x } vt vr := h.put 1 _ _ rfl rfl rfl
theorem EAt.prng {w : World} {f : Nat → Prop} {g : Nat} {e : E} {vt vr : Value} (h : EAt w f g e vt vr) (x : Int) : EAt (w.setCell ⟨g, 2, none⟩ (.int .u64 x)) f g { e with rng := x } vt vr := h.put 2 _ _ rfl rfl rfl
theorem EAt.pbits {w : World} {f : Nat → Prop} {g : Nat} {e : E} {vt vr : Value} (h : EAt w f g e vt vr) (x : Int) : EAt (w.setCell ⟨g, 4, none⟩ (.int .i64 x)) f g { e with rawBits := x } vt vr := h.put 4 _ _ rfl rfl rfl
theorem EAt.pcount {w : World} {f : Nat → Prop} {g : Nat} {e : E} {vt vr : Value} (h : EAt w f g e vt vr) (x : Int) : EAt (w.setCell ⟨g, 5, none⟩ (.int .i64 x)) f g { e with count := x } vt vr := h.put 5 _ _ rfl rfl rfl
theorem EAt.drew {w : World} {f : Nat → Prop} {g : Nat} {e : E} {vt vr : Value} (h : EAt w f g e vt vr) : EAt w.drew f g e vt vr := ⟨h.blk, h.ot, h.orw, h.ne, h.hg, h.ht, h.hr, h.lt⟩
theorem EAt.chg {w w1 : World} {f S : Nat → Prop} {g : Nat} {e : E} {vt vr : Value} (h : EAt w f g e vt vr) (k : Chg w w1 S) (hd : Dj f S) : EAt w1 f g e vt vr :=
  ⟨k.blk h.blk (hd g h.hg), k.own h.ot (fun b hb => hd b (h.ht b hb)), k.own h.orw (fun b hb => hd b (h.hr b hb)), h.ne, h.hg, h.ht, h.hr, h.lt.chg k⟩
/-- The row of what is told grows, or is made anew. -/
theorem EAt.told {w w1 : World} {f : Nat → Prop} {g : Nat} {e : E} {vt vr v1 : Value} {l : List Int} (h : EAt w f g e vt vr) (ho : w1.ownsRow 0 5 1 v1 l.length (nums .u8 l)) (hc : Chg w w1 (blkOf vt)) (hx : Ext w (blkOf vt) (blkOf v1)) :
    EAt (w1.setCell ⟨g, 0, none⟩ v1) (fun b => f b ∨ blkOf v1 b) g { e with told := l } v1 vr := by
  have hb1 : w1.heap[g]? = some (.cells (ecells vt vr e) 107 (0, 0)) := hc.blk h.blk h.tne
  have hr1 : w1.ownsRow 0 5 1 vr e.raw.length (nums .u8 e.raw) := hc.own h.orw (fun k hk hh => h.ne k hh hk)
  have n1 : v1.ownBlock ≠ some g := fun k => own_ne ho hb1 (by decide) k.symm
  have n2 : vr.ownBlock ≠ some g := h.rne
  refine ⟨blk_put hb1 0 v1 rfl, own_setCell ho (fun hh => n1 hh.symm) _, own_setCell hr1 (fun hh => n2 hh.symm) _, ?_, .inl h.hg, fun k hk => .inr hk, fun k hk => .inl (h.hr k hk), ?_⟩
  · intro k hk hk'
    rcases hx k hk with hh | hh
    · exact h.ne k hh hk'
    · have := h.lt k (h.hr k hk'); omega
  · intro b hb
    have hs : w1.heap.size = (w1.setCell ⟨g, 0, none⟩ v1).heap.size := by simp [World.setCell]
    rw [← hs]
    rcases hb with hb | hb
    · exact Nat.lt_of_lt_of_le (h.lt b hb) hc.size
    · exact own_lt ho b hb
theorem wraps_u64 (n : Int) (h₀ : 0 ≤ n) (h₁ : n < 2 ^ 63) : IntKind.u64.wrap n = n := by
  simp only [IntKind.wrap, IntKind.bits, IntKind.signed]
  simp
  omega
theorem u64_code (x : Int) (h₀ : 0 ≤ x) (h₁ : x < 1099511627776) : bits .and .u64 x 2147483647 = x % 2147483648 :=
  bits_mask .u64 63 (by decide) wraps_u64 31 (by decide) x h₀ (by omega)

theorem normL_stop (k : Nat) (e : E) (h : ¬ e.rng ≤ 8388608) : normL k e = e := by
  cases k with
  | zero => rfl
  | succ k => show (if _ then _ else _) = _; rw [if_neg h]
theorem normL_go (k : Nat) (e : E) (h : e.rng ≤ 8388608) : normL (k + 1) e = normL k { e with told := e.told ++ [e.val / 8388608 % 256], val := e.val * 256 % 2147483648, rng := e.rng * 256, count := e.count + 8 } := by
  show (if _ then _ else _) = _; rw [if_pos h]
theorem norm0_no (e : E) (h : e.val ≤ 2147483647) : norm0 e = e := if_pos h
theorem norm0_yes (e : E) (h : ¬ e.val ≤ 2147483647) : norm0 e = { e with told := carryN e.told e.told.length, val := e.val % 2147483648 } := if_neg h

/-- What the loop of 'normalise' keeps. -/
structure NInv (w wr : World) (f : Nat → Prop) (g : Nat) (er : E) (k : Nat) (e : E) (f' : Nat → Prop) (vt vr : Value) : Prop where
  at_ : EAt wr f' g e vt vr
  chg : Chg w wr f
  ext : Ext w f f'
  eq : normL k e = er
  r0 : 8388608 < e.rng * 256 ^ k
  r1 : 1 ≤ e.rng
  r2 : e.rng ≤ 2147483648
  v0 : 0 ≤ e.val
  v1 : e.val ≤ 2147483647
  n : e.told.length + k ≤ 1099511627776
  c0 : 0 ≤ e.count
  c1 : e.count + 8 * k ≤ 1152921504606846976

theorem NInv.step {w wr w1 : World} {f f' : Nat → Prop} {g : Nat} {er e : E} {k : Nat} {vt vr v1 : Value} (h : NInv w wr f g er (k + 1) e f' vt vr) (hr : e.rng ≤ 8388608)
    (ho : w1.ownsRow 0 5 1 v1 (e.told ++ [e.val / 8388608 % 256]).length (nums .u8 (e.told ++ [e.val / 8388608 % 256]))) (hc : Chg wr w1 (blkOf vt)) (hx : Ext wr (blkOf vt) (blkOf v1)) :
    NInv w ((((w1.setCell ⟨g, 0, none⟩ v1).setCell ⟨g, 1, none⟩ (.int .u64 (e.val * 256 % 2147483648))).setCell ⟨g, 2, none⟩ (.int .u64 (e.rng * 256))).setCell ⟨g, 5, none⟩ (.int .i64 (e.count + 8))) f g er k
      { e with told := e.told ++ [e.val / 8388608 % 256], val := e.val * 256 % 2147483648, rng := e.rng * 256, count := e.count + 8 } (fun b => f' b ∨ blkOf v1 b) v1 vr := by
  obtain ⟨h0, h1, h2, h3, h4, h5, h6, h7, h8, h9, h10, h11⟩ := h
  have hg := h2 g h0.hg
  refine ⟨(((h0.told ho hc hx).pval _).prng _).pcount _, ?_, ?_, ?_, ?_, ?_, ?_, ?_, ?_, ?_, ?_, ?_⟩
  · exact ((((h1.trans (hc.mono (fun b hb => h0.ht b hb)) h2).setCell hg _).setCell hg _).setCell hg _).setCell hg _
  · intro b hb
    rcases hb with hb | hb
    · exact h2 b hb
    · rcases hx b hb with hh | hh
      · exact h2 b (h0.ht b hh)
      · exact .inr (Nat.le_trans h1.size hh)
  · rw [← h3, normL_go _ _ hr]
  · show (8388608 : Int) < e.rng * 256 * 256 ^ k
    rw [Int.mul_assoc, ← Int.pow_succ']; exact h4
  · show 1 ≤ e.rng * 256; omega
  · show e.rng * 256 ≤ 2147483648; omega
  · show 0 ≤ e.val * 256 % 2147483648; omega
  · show e.val * 256 % 2147483648 ≤ 2147483647; omega
  · show (e.told ++ _).length + k ≤ _; simp; omega
  · show 0 ≤ e.count + 8; omega
  · show e.count + 8 + 8 * (k : Int) ≤ _; omega
set_option maxHeartbeats 1000000 in
set_option maxRecDepth 100000 in
theorem normalise_calls (w : World) (f : Nat → Prop) (g : Nat) (e : E) (h : EncAt w f g e) (r1 : 1 ≤ e.rng) (r2 : e.rng ≤ 2147483648) (v0 : 0 ≤ e.val) (v1 : e.val ≤ 4294967296) (hn : e.told.length ≤ 1000000000000) (c0 : 0 ≤ e.count) (c1 : e.count ≤ 1000000000000000000) :
    Calls Try.prog 147 #[.pointer (some ⟨g, 0, none⟩)] w fun r w' => r = .returned (.tuple #[]) ∧ ∃ f', EncAt w' f' g (norm e) ∧ Chg w w' f ∧ Ext w f f' := by
  have hand := u64_code e.val v0 (by omega)
  obtain ⟨vt, vr, h⟩ := h
  have HE := Aside0.mk h
  have k1 := h.c1
  have k1f := h.fz 1
  clear h
  by_cases hv : e.val ≤ 2147483647
  case' pos =>
    have HI : Aside0 (NInv w w f g (norm e) 3 e f vt vr) := ⟨⟨HE.out, Chg.refl _ _, Ext.refl _ _, by rw [norm, norm0_no e hv], by omega, r1, r2, v0, hv, by omega, c0, by omega⟩⟩
    go_enter Try.func147, Try.ntmps147
    go_wp2
    clear k1 k1f hand
  case' neg =>
    go_enter Try.func147, Try.ntmps147
    go_wp2_with (go_at_call 156; refine (carry_calls _ f g e ⟨vt, vr, HE.out⟩ (by omega)).mono ?_; rintro r w1 ⟨rfl, ⟨vt1, vr1, he1⟩, ch1⟩; have k2 := he1.c1; have k2f := he1.fz 1; have HE1 := Aside0.mk (And.intro he1 ch1); clear he1 ch1)
    have HI : Aside0 (NInv w (w1.setCell ⟨g, 1, none⟩ (.int .u64 (e.val % 2147483648))) f g (norm e) 3 (norm0 e) f vt1 vr1) := by
      obtain ⟨he1, ch1⟩ := HE1.out
      rw [norm, norm0_yes e (by omega)]
      exact ⟨⟨he1.pval _, ch1.setCell (.inl he1.hg) _, Ext.refl _ _, rfl, by show (8388608:Int) < e.rng * 256 ^ 3; omega, r1, r2, by show 0 ≤ e.val % 2147483648; omega, by show e.val % 2147483648 ≤ 2147483647; omega, by rw [carryN_length]; omega, c0, by show e.count + _ ≤ _; omega⟩⟩
    clear k1 k1f hand k2 k2f
  all_goals
    go_loopg [] 3 (fun k wr => ∃ e' f' vt' vr', Aside0 (NInv w wr f g (norm e) k e' f' vt' vr'))
    case atStart => exact ⟨_, _, _, _, HI⟩
    case round =>
      clear HI
      obtain ⟨e', f', vt', vr', HR⟩ := hrel
      have k0 := HR.out.at_.c0
      have k1 := HR.out.at_.c1
      have k2 := HR.out.at_.c2
      have k5 := HR.out.at_.c5
      have z0 := HR.out.at_.fz 0
      have z1 := HR.out.at_.fz 1
      have z2 := HR.out.at_.fz 2
      have z5 := HR.out.at_.fz 5
      have b1 := HR.out.r1
      have b2 := HR.out.r2
      have b3 := HR.out.v0
      have b4 := HR.out.v1
      have b5 := HR.out.c0
      have b6 := HR.out.c1
      by_cases hr : e'.rng ≤ 8388608
      · cases gk with
        | zero => exact absurd HR.out.r0 (by simp; omega)
        | succ k =>
          have hw1 : IntKind.u64.wrap (e'.val * 256) = e'.val * 256 := wraps_u64 _ (by omega) (by omega)
          have hand := u64_code (e'.val * 256) (by omega) (by omega)
          have HO := Aside0.mk HR.out.at_.ot
          have hgs : g < wr.heap.size := HR.out.at_.lt g HR.out.at_.hg
          have hu : IntKind.u8.wrap (e'.val / 8388608) = e'.val / 8388608 % 256 := IntKind.wrap_u8 _
          have hlen : e'.told.length ≤ 1099511627775 := by have := HR.out.n; omega
          go_wp2
          go_region_law (
            refine app1s rfl (.tmp 25) (.tmp 32) 26 5 .u8 1 rfl Try.underlying26 info5 (by omega) vt' e'.told (e'.val / 8388608 % 256) wr.heap.size rfl rfl (by go_simp) (own_alloc HO.out _) (by omega) ?_
            intro v1 w1 ho hc hx
            have hc' := (((Chg.refl wr (blkOf vt')).alloc _).drew).trans hc (Ext.refl _ _)
            have hx' : Ext wr (blkOf vt') (blkOf v1) := hx.le (by simp)
            obtain ⟨A1, n1, hv1⟩ := own_slice ho
            rw [List.length_append, List.length_singleton] at hv1
            subst hv1
            have HN := Aside0.mk (HR.out.step hr ho hc' hx')
            obtain ⟨q0, q1, q2, _, _, q5, qf⟩ := ecell (hc'.blk HR.out.at_.blk HR.out.at_.tne)
            have qf0 := qf 0
            have qf1 := qf 1
            have qf2 := qf 2
            have qf5 := qf 5
            clear qf hc hx hc' hx' ho k0 k1 k2 k5 z0 z1 z2 z5 HO)
          all_goals
            go_wp2
            go_roundg k
            case measure => omega
            case rel => exact ⟨_, _, _, _, by assumption⟩
      · have HF : Aside0 (∃ f', EncAt wr f' g (norm e) ∧ Chg w wr f ∧ Ext w f f') := ⟨⟨f', ⟨vt', vr', by rw [← HR.out.eq, normL_stop _ _ hr]; exact HR.out.at_⟩, HR.out.chg, HR.out.ext⟩⟩
        go_wp2
        go_returns
        exact ⟨rfl, HF.out⟩
end Go.Proofs.Ytiabenmgbikllaa.M

-- E2
namespace Go.Proofs.Ytiabenmgbikllaa.M
open Go.RowKit Go.Proofs.YtiabenmgbikllaaW.PrintWords Go.Proofs.YtiabenmgbikllaaW.PrintLast Go.Proofs.YtiabenmgbikllaaW.PrintMore
attribute [local go_sem] max2_int min2_int max_two min_two max_three min_three max_four min_four

def take0 (e : E) (fl fh ft : Int) : E :=
  if 0 < fl then { e with val := e.val + (e.rng - e.rng / ft * (ft - fl)), rng := e.rng / ft * (fh - fl) }
  else { e with rng := e.rng - e.rng / ft * (ft - fh) }
def E.take (e : E) (fl fh ft : Int) : E := norm (take0 e fl fh ft)
/-- A writer as it stands between two calls. -/
structure EOk (e : E) : Prop where
  r1 : 8388608 < e.rng
  r2 : e.rng ≤ 2147483648
  v0 : 0 ≤ e.val
  v1 : e.val ≤ 2147483647
  n : e.told.length ≤ 100000000000
  c0 : 0 ≤ e.count
  c1 : e.count ≤ 100000000000000000

theorem take_facts (r ft fl fh : Int) (r1 : 8388608 < r) (r2 : r ≤ 2147483648) (h0 : 0 ≤ fl) (h1 : fl < fh) (h2 : fh ≤ ft) (h3 : ft ≤ 32768) :
    1 ≤ r / ft ∧ r / ft ≤ r ∧ 0 ≤ r / ft * (ft - fl) ∧ r / ft * (ft - fl) ≤ r ∧ 1 ≤ r / ft * (fh - fl) ∧ r / ft * (fh - fl) ≤ r ∧ 0 ≤ r / ft * (ft - fh) ∧ r / ft * (ft - fh) < r ∧ (r - r / ft * (ft - fl)) + r / ft * (fh - fl) ≤ r := by
  have hft : 0 < ft := by omega
  have hq1 : 1 ≤ r / ft := by
    rw [Int.le_ediv_iff_mul_le hft]; omega
  have hqr : r / ft * ft ≤ r := Int.ediv_mul_le r (by omega)
  have a1 : r / ft * (ft - fl) ≤ r / ft * ft := Int.mul_le_mul_of_nonneg_left (by omega) (by omega)
  have a2 : 0 ≤ r / ft * (ft - fl) := Int.mul_nonneg (by omega) (by omega)
  have a3 : r / ft * 1 ≤ r / ft * (fh - fl) := Int.mul_le_mul_of_nonneg_left (by omega) (by omega)
  have a4 : r / ft * (fh - fl) ≤ r / ft * (ft - fl) := Int.mul_le_mul_of_nonneg_left (by omega) (by omega)
  have a5 : 0 ≤ r / ft * (ft - fh) := Int.mul_nonneg (by omega) (by omega)
  have a6 : r / ft * (ft - fh) ≤ r / ft * (ft - 1) := Int.mul_le_mul_of_nonneg_left (by omega) (by omega)
  have a7 : r / ft * (ft - 1) = r / ft * ft - r / ft := by rw [Int.mul_sub, Int.mul_one]
  have a8 : r / ft ≤ r := Int.ediv_le_self _ (by omega)
  refine ⟨hq1, a8, a2, ?_, ?_, ?_, a5, ?_, ?_⟩ <;> omega

set_option maxHeartbeats 1000000 in
set_option maxRecDepth 100000 in
theorem etake_calls (w : World) (f : Nat → Prop) (g : Nat) (e : E) (fl fh ft : Int) (h : EncAt w f g e) (hk : EOk e) (h0 : 0 ≤ fl) (h1 : fl < fh) (h2 : fh ≤ ft) (h3 : ft ≤ 32768) :
    Calls Try.prog 129 #[.pointer (some ⟨g, 0, none⟩), .int .u64 fl, .int .u64 fh, .int .u64 ft] w fun r w' => r = .returned (.tuple #[]) ∧ ∃ f', EncAt w' f' g (e.take fl fh ft) ∧ Chg w w' f ∧ Ext w f f' := by
  obtain ⟨vt, vr, h⟩ := h
  obtain ⟨r1, r2, v0, v1, hn, c0, c1⟩ := hk
  have HE := Aside0.mk h
  have k1 := h.c1
  have k2 := h.c2
  have z1 := h.fz 1
  have z2 := h.fz 2
  have hf := h.hg
  have HF := Aside0.mk hf
  clear h hf
  obtain ⟨p1, p2, p3, p4, p5, p6, p7, p8, p9⟩ := take_facts e.rng ft fl fh r1 r2 h0 h1 h2 h3
  by_cases hfl : 0 < fl
  · have w1 : IntKind.u64.wrap (ft - fl) = ft - fl := wraps_u64 _ (by omega) (by omega)
    have w2 : IntKind.u64.wrap (e.rng / ft * (ft - fl)) = e.rng / ft * (ft - fl) := wraps_u64 _ (by omega) (by omega)
    have w3 : IntKind.u64.wrap (e.rng - e.rng / ft * (ft - fl)) = e.rng - e.rng / ft * (ft - fl) := wraps_u64 _ (by omega) (by omega)
    have w4 : IntKind.u64.wrap (e.val + (e.rng - e.rng / ft * (ft - fl))) = e.val + (e.rng - e.rng / ft * (ft - fl)) := wraps_u64 _ (by omega) (by omega)
    go_enter Try.func129, Try.ntmps129
    go_wp2
    go_region
    all_goals
      go_wp2_with fail
      have HC : EncAt ((w.setCell ⟨g, 1, none⟩ (.int .u64 (e.val + (e.rng - e.rng / ft * (ft - fl))))).setCell ⟨g, 2, none⟩ (.int .u64 (e.rng / ft * (fh - fl)))).drew f g (take0 e fl fh ft) := by
        rw [take0, if_pos hfl]
        exact ⟨vt, vr, ((HE.out.pval _).prng _).drew⟩
      have ec : (take0 e fl fh ft).count = e.count := by rw [take0, if_pos hfl]
      have et : (take0 e fl fh ft).told = e.told := by rw [take0, if_pos hfl]
      have er : (take0 e fl fh ft).rng = e.rng / ft * (fh - fl) := by rw [take0, if_pos hfl]
      have ev : (take0 e fl fh ft).val = e.val + (e.rng - e.rng / ft * (ft - fl)) := by rw [take0, if_pos hfl]
      refine (normalise_calls _ f g _ HC (by rw [er]; omega) (by rw [er]; omega) (by rw [ev]; omega) (by rw [ev]; omega) (by rw [et]; omega) (by rw [ec]; omega) (by rw [ec]; omega)).mono ?_
      rintro r w1 ⟨rfl, f', hE, hc, hx⟩
      have HP : Aside0 (∃ f', EncAt w1 f' g (e.take fl fh ft) ∧ Chg w w1 f ∧ Ext w f f') := ⟨⟨f', hE, ((((Chg.refl w f).setCell (.inl HF.out) _).setCell (.inl HF.out) _).drew).trans hc (Ext.refl _ _), hx.le (by simp [World.setCell])⟩⟩
      clear hE hc hx HC ec et er ev
      go_wp2
      go_returns
      exact ⟨rfl, HP.out⟩
  · go_enter Try.func129, Try.ntmps129
    go_wp2_with fail
    have HC : EncAt (w.setCell ⟨g, 2, none⟩ (.int .u64 (e.rng - e.rng / ft * (ft - fh)))) f g (take0 e fl fh ft) := by
      rw [take0, if_neg (by omega)]
      exact ⟨vt, vr, HE.out.prng _⟩
    have ec : (take0 e fl fh ft).count = e.count := by rw [take0, if_neg (by omega)]
    have et : (take0 e fl fh ft).told = e.told := by rw [take0, if_neg (by omega)]
    have er : (take0 e fl fh ft).rng = e.rng - e.rng / ft * (ft - fh) := by rw [take0, if_neg (by omega)]
    have ev : (take0 e fl fh ft).val = e.val := by rw [take0, if_neg (by omega)]
    refine (normalise_calls _ f g _ HC (by rw [er]; omega) (by rw [er]; omega) (by rw [ev]; omega) (by rw [ev]; omega) (by rw [et]; omega) (by rw [ec]; omega) (by rw [ec]; omega)).mono ?_
    rintro r w1 ⟨rfl, f', hE, hc, hx⟩
    have HP : Aside0 (∃ f', EncAt w1 f' g (e.take fl fh ft) ∧ Chg w w1 f ∧ Ext w f f') := ⟨⟨f', hE, ((Chg.refl w f).setCell (.inl HF.out) _).trans hc (Ext.refl _ _), hx.le (by simp [World.setCell])⟩⟩
    clear hE hc hx HC ec et er ev
    go_wp2
    go_returns
    exact ⟨rfl, HP.out⟩
end Go.Proofs.Ytiabenmgbikllaa.M
