/- Frames of worlds: what stands behind a call that may write the blocks of a set and make new ones. Conditions: none. -/
import Derived.Test.YtiabenmgbikllaaPAllx0
namespace Go.Proofs.Ytiabenmgbikllaa.M
open Go.RowKit Go.Proofs.YtiabenmgbikllaaW.PrintWords Go.Proofs.YtiabenmgbikllaaW.PrintLast Go.Proofs.YtiabenmgbikllaaW.PrintMore

/-- All but the blocks of S stand; new blocks may have come. -/
structure Chg (w w' : World) (S : Nat → Prop) : Prop where
  os : w'.os = w.os
  tape : w'.tape = w.tape
  output : w'.output = w.output
  size : w.heap.size ≤ w'.heap.size
  block : ∀ i, i < w.heap.size → ¬ S i → w'.heap[i]? = w.heap[i]?

def No : Nat → Prop := fun _ => False
/-- The set f' holds what f held, or new blocks of w. -/
def Ext (w : World) (f f' : Nat → Prop) : Prop := ∀ k, f' k → f k ∨ w.heap.size ≤ k
/-- Two sets of blocks have none in common. -/
def Dj (f f' : Nat → Prop) : Prop := ∀ k, f k → ¬ f' k
/-- All blocks of the set are there. -/
def Lt (w : World) (f : Nat → Prop) : Prop := ∀ k, f k → k < w.heap.size
/-- All blocks of the set are from B on. -/
def Ge (B : Nat) (f : Nat → Prop) : Prop := ∀ k, f k → B ≤ k

section
variable {w w1 w2 w3 : World} {S S1 S2 f f1 f2 f' : Nat → Prop} {B g : Nat}
theorem Ext.refl (w : World) (f : Nat → Prop) : Ext w f f := fun _ h => .inl h
theorem Ext.trans (h : Ext w f f1) (hw : w.heap.size ≤ w1.heap.size) (k : Ext w1 f1 f2) : Ext w f f2 :=
  fun b hb => (k b hb).elim (h b) (fun h => .inr (Nat.le_trans hw h))
theorem Ext.le (k : Ext w1 f f1) (hw : w.heap.size ≤ w1.heap.size) : Ext w f f1 := (Ext.refl w f).trans hw k
theorem Ext.sub (h : ∀ k, f' k → f k) : Ext w f f' := fun k hk => .inl (h k hk)
theorem Ext.new (h : Ge w.heap.size f') : Ext w f f' := fun k hk => .inr (h k hk)
theorem Chg.refl (w : World) (S : Nat → Prop) : Chg w w S := ⟨rfl, rfl, rfl, Nat.le_refl _, fun _ _ _ => rfl⟩
theorem Chg.mono (h : Chg w w1 S) (hs : ∀ k, S k → S1 k) : Chg w w1 S1 := ⟨h.os, h.tape, h.output, h.size, fun i hi hn => h.block i hi (fun h' => hn (hs i h'))⟩
theorem Chg.trans (h : Chg w w1 S) (k : Chg w1 w2 S1) (hs : Ext w S S1) : Chg w w2 S :=
  ⟨k.os.trans h.os, k.tape.trans h.tape, k.output.trans h.output, Nat.le_trans h.size k.size, fun i hi hn =>
    (k.block i (Nat.lt_of_lt_of_le hi h.size) (fun h1 => (hs i h1).elim hn (fun h2 => absurd hi (by omega)))).trans (h.block i hi hn)⟩
theorem Chg.of_below (h : Below w.heap.size w w1) (S : Nat → Prop) : Chg w w1 S := ⟨h.os, h.tape, h.output, h.size, fun i hi _ => h.block i hi⟩
theorem Chg.below (h : Chg w w1 S) (hs : Ge B S) (hB : B ≤ w.heap.size) : Below B w w1 :=
  ⟨h.os, h.tape, h.output, h.size, fun i hi => h.block i (by omega) (fun h1 => by have := hs i h1; omega)⟩
theorem Chg.below_no (h : Chg w w1 No) : Below w.heap.size w w1 := h.below (fun _ h => h.elim) (Nat.le_refl _)
theorem Chg.then_below (h : Chg w w1 S) (k : Below w1.heap.size w1 w2) : Chg w w2 S := h.trans (Chg.of_below k No) (fun _ hk => hk.elim)
theorem Chg.alloc (h : Chg w w1 S) (o : Obj) : Chg w (w1.alloc o) S := h.then_below (below_alloc (Below.refl _ _) o)
theorem Chg.drew (h : Chg w w1 S) : Chg w w1.drew S := ⟨h.os, h.tape, h.output, h.size, h.block⟩
theorem Chg.drewN (h : Chg w w1 S) (n : Nat) : Chg w (w1.drewN n) S := ⟨h.os, h.tape, h.output, h.size, h.block⟩
theorem Chg.setCell (h : Chg w w1 S) {p : Addr} (hp : S p.block ∨ w.heap.size ≤ p.block) (u : Value) : Chg w (w1.setCell p u) S :=
  ⟨h.os, h.tape, h.output, by simpa [World.setCell] using h.size, fun i hi hn =>
    (Below.heap_setCell w1 p u i (fun e => by rw [e] at hi hn; rcases hp with hp | hp; exact hn hp; omega)).trans (h.block i hi hn)⟩
theorem Chg.grown {row : Option Nat} (h : Chg w w1 S) (hg : w1.grownBy w2 row) (hr : ∀ k, row = some k → S k ∨ w.heap.size ≤ k) : Chg w w2 S :=
  ⟨hg.os.trans h.os, hg.tape.trans h.tape, hg.output.trans h.output, Nat.le_trans h.size hg.size, fun i hi hn =>
    (hg.block i (Nat.lt_of_lt_of_le hi h.size) (fun e => (hr i e.symm).elim hn (fun h2 => absurd hi (by omega)))).trans (h.block i hi hn)⟩
/-- A state's call, as the print tells it. -/
theorem Chg.of_keep {w0 : World} {g : Nat} (h0 : Below w0.heap.size w0 w) (h1 : Below w0.heap.size w0 w1) (k : KeepBut w w1 g none) : Chg w w1 (fun b => b = g) :=
  ⟨h1.os.trans h0.os.symm, h1.tape.trans h0.tape.symm, h1.output.trans h0.output.symm, k.1, fun i hi hn => k.2 i hi hn (by simp)⟩
theorem Chg.blk {o : Obj} (h : Chg w w1 S) (hb : w.heap[g]? = some o) (hg : ¬ S g) : w1.heap[g]? = some o := (h.block g (blk_lt hb) hg).trans hb
theorem Chg.own {base : Nat} {e : TypeId} {size n : Nat} {v : Value} {xs : List Value} (h : Chg w w1 S) (ho : w.ownsRow base e size v n xs) (hg : ∀ k, v.ownBlock = some k → ¬ S k) : w1.ownsRow base e size v n xs :=
  own_move ho (fun k hk => h.block k (own_lt ho k hk) (hg k hk))
theorem Lt.chg (h : Lt w f) (k : Chg w w1 S) : Lt w1 f := fun b hb => Nat.lt_of_lt_of_le (h b hb) k.size
theorem Dj.ext (h : Dj f f2) (hl : Lt w f2) (k : Ext w f f1) : Dj f1 f2 := fun b h1 h2 => (k b h1).elim (fun h3 => h b h3 h2) (fun h3 => absurd (hl b h2) (by omega))
theorem Dj.symm (h : Dj f f1) : Dj f1 f := fun b h1 h2 => h b h2 h1
theorem Dj.of_ge (h : Lt w f) (k : Ge w.heap.size f1) : Dj f f1 := fun b h1 h2 => by have := h b h1; have := k b h2; omega
theorem Dj.ge_lt (k : Ge w.heap.size f) (h : Lt w f1) : Dj f f1 := (Dj.of_ge h k).symm
theorem Ge.ext (h : Ge B f) (hB : B ≤ w.heap.size) (k : Ext w f f1) : Ge B f1 := fun b hb => (k b hb).elim (h b) (Nat.le_trans hB)
end
/-- The world of the first n blocks. -/
def cut (w : World) (n : Nat) : World := { w with heap := w.heap.extract 0 n }
theorem cut_size (w : World) (n : Nat) (h : n ≤ w.heap.size) : (cut w n).heap.size = n := by simp [cut]; omega
theorem cut_get (w : World) (n i : Nat) (h : i < n) : (cut w n).heap[i]? = w.heap[i]? := by
  simp [cut, Array.getElem?_extract]
  intro h1
  omega
theorem cut_below (w : World) (n : Nat) (h : n ≤ w.heap.size) : Below (cut w n).heap.size (cut w n) w :=
  ⟨rfl, rfl, rfl, by rw [cut_size w n h]; exact h, fun i hi => (cut_get w n i (by rwa [cut_size w n h] at hi)).symm⟩
end Go.Proofs.Ytiabenmgbikllaa.M
