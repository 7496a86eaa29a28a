/-
  Arguments opened: arrays of numbers; bytes with what nil says; small numbers.
-/
import Derived.Test.YtcljmnbjejcdaaaRowA
namespace Go.Proofs.Ytcljmnbjejcdaaa
open Go.ChangeShapes Go.WideShapes Go.ChangeAt Go.RowKit Go.Deep Go.Joins

section
variable {H : Type} {enc : TypeId × Value → H} {W : World} {d : DataW H} {p : List MemPlace}
set_option maxRecDepth 100000 in
theorem okWide_array {P : Program} {r : Reach} {b : Nat} {t e : TypeId} {n : Nat} {v : Value} (ht : P.underlying t = some (.array n e)) (h : Value.okWide P W r b t v) : ∃ cs, v = .agg cs ∧ cs.size = P.cellsOf t := by
  simp only [Value.okWide, ht] at h
  obtain ⟨cs, h1, h2, _⟩ := h
  exact ⟨cs, h1, h2⟩
set_option maxRecDepth 100000 in
theorem open_arrI {t e : TypeId} {k : IntKind} {n b : Nat} {v : Value} (ht : Try.prog.underlying t = some (.array n e)) (he : Try.prog.underlying e = some (.int k)) (hc : Try.prog.cellsOf e = 1) (hct : Try.prog.cellsOf t = n)
    (hv : Value.okWide Try.prog W .any b t v) (h : DataW.Trod enc Try.prog W 0 (fun _ => true) true t v d p) : ∃ zs : List Int, zs.length = n ∧ v = .agg (zs.map (Value.int k)).toArray ∧ ∀ z ∈ zs, (Lit.int k z).wf = true := by
  obtain ⟨cs, rfl, hsz⟩ := okWide_array ht hv
  obtain ⟨fuel, hf⟩ := h
  obtain ⟨xs, m, _, _, _, hxl, hx⟩ := DataW.trod_array ht hf
  rw [hct] at hsz
  rw [hc] at hx
  have key : ∀ i, i < n → ∃ z : Int, cs[i]? = some (.int k z) ∧ (Lit.int k z).wf = true := fun i hi => by
    have h1 := hx i hi
    have h2 : (((Value.agg cs).cells.toList).drop (i * 1)).take 1 = [cs[i]'(by omega)] := by
      simp only [Value.cells, Nat.mul_one]
      rw [List.drop_eq_getElem_cons (by simpa using (show i < cs.size by omega))]
      simp
    rw [h2, List.getElem?_eq_getElem (by omega)] at h1
    obtain ⟨z, hz, _, hw⟩ := DataW.trod_int he h1
    simp at hz
    exact ⟨z, by rw [Array.getElem?_eq_getElem (by omega), hz], hw⟩
  obtain ⟨zs, hzl, hzs⟩ := list_of (α := Int) (p := fun i z => cs[i]? = some (.int k z) ∧ (Lit.int k z).wf = true) n key
  refine ⟨zs, hzl, ?_, fun z hz => by obtain ⟨i, hi⟩ := List.mem_iff_getElem?.1 hz; exact (hzs i z hi).2⟩
  congr 1
  apply Array.ext_getElem?
  intro i
  rcases Nat.lt_or_ge i n with hi | hi
  · have hz : zs[i]? = some (zs[i]'(by omega)) := List.getElem?_eq_getElem _
    rw [(hzs i _ hz).1]
    simp [hz]
  · rw [Array.getElem?_eq_none (by omega)]
    symm
    rw [Array.getElem?_eq_none (by simp; omega)]
theorem open_bytesN {A : Option Addr} {n cap : Nat} (h : DataW.Trod enc Try.prog W 0 (fun _ => true) true 26 (.slice A n cap) d p) : ∃ xs, Sl csB 1 W W.heap.size A n cap xs ∧ (A = none → n = 0 ∧ cap = 0) := by
  obtain ⟨xs, h1⟩ := open_bytes h
  refine ⟨xs, h1, fun hA => ?_⟩
  obtain ⟨fuel, hf⟩ := h
  rcases open_ints (k := .u8) Try.underlying26 Try.underlying5 (by kernel_rfl) hf with ⟨hcs, _⟩ | ⟨a, l, c, zs, hcs, _⟩
  · simp [Value.cells] at hcs
    exact ⟨hcs.2.1, hcs.2.2⟩
  · simp [Value.cells] at hcs
    rw [hA] at hcs
    cases hcs.1
theorem open_numsN {A : Option Addr} {n cap : Nat} (h : DataW.Trod enc Try.prog W 0 (fun _ => true) true 37 (.slice A n cap) d p) : ∃ xs, Sl csI 1 W W.heap.size A n cap xs ∧ (∀ x ∈ xs, I64 x) ∧ (A = none → n = 0 ∧ cap = 0) := by
  obtain ⟨xs, h1, h2⟩ := open_nums h
  refine ⟨xs, h1, h2, fun hA => ?_⟩
  obtain ⟨fuel, hf⟩ := h
  rcases open_ints (k := .i64) Try.underlying37 Try.underlying3 (by kernel_rfl) hf with ⟨hcs, _⟩ | ⟨a, l, c, zs, hcs, _⟩
  · simp [Value.cells] at hcs
    exact ⟨hcs.2.1, hcs.2.2⟩
  · simp [Value.cells] at hcs
    rw [hA] at hcs
    cases hcs.1
end
theorem nat_of_u8 {z : Int} (h : (Lit.int .u8 z).wf = true) : ∃ b : UInt8, (b.toNat : Int) = z := by
  simp only [Lit.wf, Bool.and_eq_true, decide_eq_true_eq] at h
  have e1 : IntKind.u8.min = 0 := by decide
  have e2 : IntKind.u8.max = 255 := by decide
  rw [e1, e2] at h
  exact ⟨UInt8.ofNat z.toNat, by rw [UInt8.toNat_ofNat']; omega⟩
theorem nat_of_u16 {z : Int} (h : (Lit.int .u16 z).wf = true) : ∃ k : Nat, z = k ∧ k ≤ 65535 := by
  simp only [Lit.wf, Bool.and_eq_true, decide_eq_true_eq] at h
  have e1 : IntKind.u16.min = 0 := by decide
  have e2 : IntKind.u16.max = 65535 := by decide
  rw [e1, e2] at h
  exact ⟨z.toNat, by omega, by omega⟩
theorem bytes_of_wf {zs : List Int} (h : ∀ z ∈ zs, (Lit.int .u8 z).wf = true) : ∃ l : List UInt8, l.length = zs.length ∧ zs.map (Value.int .u8) = l.map (fun b => Value.int .u8 (b.toNat : Int)) := by
  induction zs with
  | nil => exact ⟨[], rfl, rfl⟩
  | cons z zs ih =>
    obtain ⟨l, h1, h2⟩ := ih (fun x hx => h x (by simp [hx]))
    obtain ⟨b, hb⟩ := nat_of_u8 (h z (by simp))
    exact ⟨b :: l, by simp [h1], by simp only [List.map_cons]; rw [h2, hb]⟩
end Go.Proofs.Ytcljmnbjejcdaaa
