/- What the document tells of a few loudnesses, reckoned. Conditions: none. -/
import Derived.Test.YtiabenmgbikllaaG6
import Derived.Test.YtiabenmgbikllaaE8
namespace Go.Proofs.Ytiabenmgbikllaa.M
set_option linter.unusedVariables false
open Go.RowKit Go.Proofs.YtiabenmgbikllaaW.PrintWords Go.Proofs.YtiabenmgbikllaaW.PrintLast Go.Proofs.YtiabenmgbikllaaW.PrintMore Go.Proofs.Ytiabenmgbikllaa.PAll

/-- Whether a writer is in order, looked over by program. -/
def eokB (e : E) : Bool := decide (8388608 < e.rng) && decide (e.rng ≤ 2147483648) && decide (0 ≤ e.val) && decide (e.val ≤ 2147483647) && decide (e.told.length ≤ 100000000000) && decide (0 ≤ e.count) && decide (e.count ≤ 100000000000000000)
theorem eok_of (e : E) (h : eokB e = true) : EOk e := by
  unfold eokB at h
  simp only [Bool.and_eq_true, decide_eq_true_eq] at h
  obtain ⟨⟨⟨⟨⟨⟨h1, h2⟩, h3⟩, h4⟩, h5⟩, h6⟩, h7⟩ := h
  exact ⟨h1, h2, h3, h4, h5, h6, h7⟩
def bytesB (l : List Int) : Bool := l.all fun x => decide (0 ≤ x) && decide (x < 256)
theorem bytes_of (l : List Int) (h : bytesB l = true) : Bytes l := fun x hx => by
  unfold bytesB at h
  rw [List.all_eq_true] at h
  have := h x hx
  simpa using this
def eokrB (e : E) : Bool := decide (0 ≤ e.rawBits) && decide ((e.raw.length : Int) = (e.rawBits + 7) / 8) && decide (e.count = 33 + 8 * e.told.length + e.rawBits) && bytesB e.told && bytesB e.raw
theorem eokr_of (e : E) (h : eokrB e = true) : EOkR e := by
  unfold eokrB at h
  simp only [Bool.and_eq_true, decide_eq_true_eq] at h
  obtain ⟨⟨⟨⟨h1, h2⟩, h3⟩, h4⟩, h5⟩ := h
  exact ⟨h1, h2, h3, bytes_of _ h4, bytes_of _ h5⟩

def ge1 : E := E.new.first 33
def ge2 : E := ge1.next 60 33
def ge3 : E := ge2.ltp 100 3
def gx : List Int := ge3.done 20
theorem ge_ok : EOk (E.new.symbol (33 / 8) (icdf 1)) ∧ EOk ge1 ∧ EOk ge2 ∧ EOk (ge2.uint (100 - 16) 129) ∧ EOk ge3 ∧ EOkR ge3 :=
  ⟨eok_of _ (by decide +kernel), eok_of _ (by decide +kernel), eok_of _ (by decide +kernel), eok_of _ (by decide +kernel), eok_of _ (by decide +kernel), eokr_of _ (by decide +kernel)⟩
theorem ge_tell : ge3.tell ≤ 8 * ((20 : Nat) : Int) := by decide +kernel
theorem gx_bytes : Bytes gx := bytes_of _ (by decide +kernel)
theorem gx_len : gx.length = 20 := by decide +kernel
def gd0 : D := D.new gx
def gd1 : D := gd0.firstD
def gd2 : D := gd1.nextD
theorem gd_reads : gd0.firstV = 33 ∧ gd1.nextV' 33 = 41 ∧ gd2.ltpLag = 100 ∧ gd2.ltpTaps = 3 := by
  refine ⟨?_, ?_, ?_, ?_⟩ <;> decide +kernel
theorem g_next : gcl (gcl 33 + nextS 60 33 - 8) = 41 := by decide +kernel
theorem g_loud : loud 0 = 1 ∧ nearest 1 = 0 := by
  refine ⟨?_, ?_⟩ <;> decide +kernel
end Go.Proofs.Ytiabenmgbikllaa.M
