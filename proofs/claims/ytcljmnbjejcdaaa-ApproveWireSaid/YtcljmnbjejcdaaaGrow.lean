/-
  A region that draws its order, whose operations read what lies below block H, and whose callees leave what lies below H alone (they may make memory): one walk in the order of the text serves every order. The class of worlds: 'Gr H w g', g any world.
-/
import Derived.Test.YtcljmnbjejcdaaaBase
import Derived.RangeFuncNested
import Derived.OrdersIn
import Derived.TacticsIn
import Derived.StillTail
namespace Go.Proofs.Ytcljmnbjejcdaaa
open Go.RowKit

open Classical in
/-- A world that has only grown since w, seen from below block H; every such world is one of these. -/
noncomputable def Gr (H : Nat) (w g : World) : World := if Below H w g then g else w

section
variable {H : Nat} {w g : World}
theorem Gr.below : Below H w (Gr H w g) := by
  unfold Gr
  split
  · assumption
  · exact Below.refl _ _
theorem Gr.of (h : Below H w g) : ∃ g', g = Gr H w g' := ⟨g, by unfold Gr; rw [if_pos h]⟩
theorem Gr.cell {p : Addr} {v : Value} (h : w.cell? p = some v) (hp : p.block < H) : ∀ g, (Gr H w g).cell? p = some v := fun _ => (Gr.below.cell hp).trans h
theorem Gr.frozen {p : Addr} {b : Bool} (h : w.frozen? p = b) (hp : p.block < H) : ∀ g, (Gr H w g).frozen? p = b := fun _ => (Gr.below.frozen hp).trans h
theorem Gr.size (hH : H ≤ w.heap.size) : H ≤ (Gr H w g).heap.size := Nat.le_trans hH Gr.below.size
theorem Gr.sl {α : Type} {cs : α → List Value} {s : Nat} {B : Nat} {A : Option Addr} {n cap : Nat} {xs : List α} (h : Sl cs s w B A n cap xs) (hB : B ≤ H) : Sl cs s (Gr H w g) B A n cap xs := h.below Gr.below hB

theorem Gr.blk {g' : Nat} {t : TypeId} {cs : Array Value} (h : Blk w g' t cs) (hg : g' < H) (i : Nat) : ∀ g, (Gr H w g).cell? ⟨g', i, none⟩ = cs[i]? := fun _ => (Gr.below.cell (p := ⟨g', i, none⟩) hg).trans (h.cell i)

/-- A callee's contract, met in a world of the class. -/
theorem Calls.gr_of {P : Program} {f : FuncId} {args : Array Value} {v : Value} (hH : H ≤ w.heap.size)
    (h : Calls P f args (Gr H w g) fun e w' => e = .returned v ∧ Below (Gr H w g).heap.size (Gr H w g) w') : Calls P f args (Gr H w g) fun e w'' => e = .returned v ∧ ∃ g', w'' = Gr H w g' :=
  h.mono fun _ _ ⟨he, hb⟩ => ⟨he, Gr.of (Gr.below.trans (hb.mono (Gr.size hH)))⟩
theorem Calls.gr_same {P : Program} {f : FuncId} {args : Array Value} {v : Value}
    (h : Calls P f args (Gr H w g) fun e w' => e = .returned v ∧ Gr H w g = w') : Calls P f args (Gr H w g) fun e w'' => e = .returned v ∧ ∃ g', w'' = Gr H w g' :=
  h.mono fun _ _ ⟨he, hw⟩ => ⟨he, g, hw.symm⟩
end

theorem wp_region_gr {P : Program} {id : Nat} {Q : Exit → Act → World → Prop} {a : Act} {w : World} {l : List Oper} (H : Nat) (hm : P.follows .mixedOrders = true) (hB : Region.lexB .any l.toArray = true)
    (h : wpQuiet P l.toArray (fun w' => ∃ g, w' = Gr H w g) (fun a' => ∀ w', (∃ g, w' = Gr H w g) → Q .normal a' w') l a) : (Code.region id l.toArray true).wp P Q a w :=
  wp_region_quiet (C := fun w' => ∃ g, w' = Gr H w g) hm hB (Gr.of ((Below.refl _ _).drew)) (by simpa using h)

/-! The same inside a fence that lets every function by. -/
section
variable {F : Fence} {n : Nat} {P : Program} {ops : Array Oper} {md : Region.Mode} {C : World → Prop}

theorem wpIn_of_quiet (hfn : ∀ f, F.fn f) (hdep : F.depth = none) (hC : ∀ (m : Nat) f args w R, Calls P f args w R → CallsIn F m P f args w R) {o : Oper} {a : Act} {K : Act → Prop} {K' : Act → World → Prop} {Q' : Exit → Act → World → Prop} {w : World} (hw : C w)
    (h : ∀ a w', C w' → K a → K' a w') (hh : o.quiet P a C K) : o.wpIn F n P a w K' Q' := by
  obtain ⟨v, h1, h2⟩ := hh
  have h3 := h1 w hw
  refine ⟨fun f _ => hfn f, ?_⟩
  have hnd : ∀ c, o.op ≠ .defer c := by
    intro c hc
    unfold Oper.quietAt execOp at h3
    rw [hc] at h3
    simp only [Sem.run_bind] at h3
    cases hr : (resolve a.eval c o.type).run P w with
    | ok d w' => rw [hr] at h3; simp [Result.andThen, Oper.quietUpon] at h3
    | halt x w' => rw [hr] at h3; simp [Result.andThen, Oper.quietUpon] at h3
  rw [Oper.semAt_eq _ _ _ hnd]
  unfold Oper.quietAt at h3
  generalize (execOp a.eval o).run P w = r at *
  cases r with
  | ok n' w' =>
    cases n' <;> simp only [Oper.quietUpon] at h3 <;> simp only [Oper.uponIn]
    case value u =>
      obtain ⟨e1, e2⟩ := h3
      rw [e1, e2]
      exact h _ _ hw h2
    case skip =>
      obtain ⟨e1, e2⟩ := h3
      rw [e1, ← e2]
      exact h _ _ hw h2
    case enter f args =>
      obtain ⟨e1, hc⟩ := h3
      rw [e1]
      exact ⟨fun hs => (by rw [hdep] at hs; cases hs), hC _ _ _ _ _ (hc.mono fun e w'' ⟨he, hw''⟩ => by subst he; exact h _ _ hw'' h2)⟩
  | halt x w' => simp only [Oper.quietUpon] at h3

theorem wpOpIn_of_qOp (hfn : ∀ f, F.fn f) (hdep : F.depth = none) (hCC : ∀ (m : Nat) f args w R, Calls P f args w R → CallsIn F m P f args w R) {i : Nat} {a : Act} {K : Act → Prop} {K' : Act → World → Prop} {Q' : Exit → Act → World → Prop} {w : World} (hC : C w)
    (h : ∀ a w', C w' → K a → K' a w') (hh : qOp P ops C i K a) : wpOpIn F n P ops Q' i K' a w := by
  unfold qOp at hh
  unfold wpOpIn
  split
  · rename_i ho; simp only [ho] at hh; exact h _ _ hC hh
  · rename_i o ho
    simp only [ho] at hh
    split
    · rename_i hw; simp only [hw, if_true] at hh; exact wpIn_of_quiet hfn hdep hCC hC h hh
    · rename_i hw; simp only [hw] at hh; exact ⟨fun f _ => hfn f, h _ _ hC hh⟩

theorem wpAnyIn_of_quiet (hfn : ∀ f, F.fn f) (hdep : F.depth = none) (hCC : ∀ (m : Nat) f args w R, Calls P f args w R → CallsIn F m P f args w R) {Q : Act → Prop} {Q' : Exit → Act → World → Prop} (hQ : ∀ a w, C w → Q a → Q' .normal a w) :
    ∀ (fuel : Nat) (listed : Array Bool) (a : Act) (w : World), C w → wpAnyQ P md ops C Q fuel listed a → wpAnyIn F n P md ops Q' fuel listed a w
  | 0, _, _, _, hw, h => ⟨h.1, hQ _ _ hw h.2⟩
  | fuel + 1, _, _, _, hw, h => ⟨fun h0 => hQ _ _ hw (h.1 h0), fun i hi => wpOpIn_of_qOp hfn hdep hCC hw (fun a' w' hw' => wpAnyIn_of_quiet hfn hdep hCC hQ fuel _ a' w' hw') (h.2 i hi)⟩

theorem wpIn_region_quiet (hfn : ∀ f, F.fn f) (hdep : F.depth = none) (hCC : ∀ (m : Nat) f args w R, Calls P f args w R → CallsIn F m P f args w R) {id : Nat} {Q : Exit → Act → World → Prop} {a : Act} {w : World} (hm : P.follows .mixedOrders = true) (hB : Region.lexB .any ops = true) (hC : C { w with drawn := w.drawn + 1 })
    (h : wpQuiet P ops C (fun a' => ∀ w', C w' → Q .normal a' w') ops.toList a) : (Code.region id ops true).wpIn F n P Q a w := by
  simp only [Region.lexB, Bool.and_eq_true] at hB
  refine wpIn_region_any hm (wpAnyIn_of_quiet hfn hdep hCC (Q := fun a' => ∀ w', C w' → Q .normal a' w') (fun _ w' hw' h => h w' hw') _ _ _ _ hC ?_)
  have := wpAnyQ_lex (C := C) (md := .any) hB.1 ops.toList 0 (Array.replicate ops.size false) a (by simp) (by simpa using hB.2) h
  simpa using this
end

/-- in a round of a loop over an iterator, under the wide fence -/
theorem wpIn_region_gr {P : Program} {id n l : Nat} {Q : Exit → Act → World → Prop} {a : Act} {w : World} {ol : List Oper} (H : Nat) (hm : P.follows .mixedOrders = true) (hB : Region.lexB .any ol.toArray = true)
    (h : wpQuiet P ol.toArray (fun w' => ∃ g, w' = Gr H w g) (fun a' => ∀ w', (∃ g, w' = Gr H w g) → Q .normal a' w') ol a) : (Code.region id ol.toArray true).wpIn (Fence.wide.inRound l) n P Q a w :=
  wpIn_region_quiet (C := fun w' => ∃ g, w' = Gr H w g) (fun _ => trivial) rfl (fun m f args w R h => CallsIn.inRound l (callsIn_wide.2 h)) hm hB (Gr.of ((Below.refl _ _).drew)) (by simpa using h)

/-! A quiet part, then a tail in one forced order: the tail is walked in any world of the class. -/
section
variable {P : Program} {ops : Array Oper} {md : Region.Mode} {C : World → Prop}

/-- some operations of the part before n come up, in any order, f of them; then L -/
def HeadC (P : Program) (md : Region.Mode) (ops : Array Oper) (C : World → Prop) (n : Nat) (L : Array Bool → Act → Prop) : Nat → Array Bool → Act → Prop
  | 0, listed, a => L listed a
  | f + 1, listed, a => Region.ready md ops listed ≠ [] ∧ ∀ i ∈ Region.ready md ops listed, i < n ∧ qOp P ops C i (HeadC P md ops C n L f (listed.setIfInBounds i true)) a

theorem HeadC.any {n g : Nat} {L : Array Bool → Act → Prop} {Q' : Exit → Act → World → Prop} (hL : ∀ listed a w, C w → L listed a → wpAny P md ops Q' g listed a w) :
    ∀ (f : Nat) (listed : Array Bool) (a : Act) (w : World), C w → HeadC P md ops C n L f listed a → wpAny P md ops Q' (f + g) listed a w := by
  intro f
  induction f with
  | zero => intro listed a w hw h; rw [Nat.zero_add]; exact hL _ _ _ hw h
  | succ f ih =>
    intro listed a w hw h
    rw [show f + 1 + g = (f + g) + 1 by omega]
    exact ⟨fun h0 => absurd h0 h.1, fun i hi => wpOp_of_qOp hw (fun a' w' hw' h' => ih _ a' w' hw' h') (h.2 i hi).2⟩

theorem HeadC.first {n i : Nat} {oi : Oper} {v : Value} {L : Array Bool → Act → Prop} (hi : ops[i]? = some oi) (hsel : ∀ (j : Nat) (o : Oper) cs b, ops[j]? = some o → o.op ≠ .select cs b)
    (hs : Region.sinkB md ops n = true) (hc : Region.chainB md ops n = true) (hn : n < ops.size) (hin : i < n) (hdone : ∀ listed a, L listed a → ∀ j ∈ Region.ready md ops listed, n ≤ j) (f : Nat) :
    ∀ (listed : Array Bool) (a : Act), HeadInv md ops n listed →
      (∀ j oj, ops[j]? = some oj → j ≠ i → listed.getD j true = false → (∀ e ∈ oj.after, Region.binds md e = true → e.on ≠ i) → oi.apart ops oj = true) →
      i ∈ Region.ready md ops listed → YieldsIn P ops C oi v a → HeadC P md ops C n L f (listed.setIfInBounds i true) (a.put oi.dst v) → HeadC P md ops C n L (f + 1) listed a := by
  induction f with
  | zero =>
    intro listed a inv _ hr hy H
    refine ⟨fun h => (by rw [h] at hr; cases hr), fun j hj => ?_⟩
    have hjn : j < n := Nat.lt_of_not_le fun h => tail_waits hs hc hn inv _ i rfl hin (mem_ready.1 hr).1 j h hj
    refine ⟨hjn, ?_⟩
    rcases Nat.decEq j i with hji | rfl
    · exact absurd (hdone _ _ H j (ready_mono hj hji)) (by omega)
    · exact hy.qOp hi H
  | succ f ih =>
    intro listed a inv hfree hr hy H
    refine ⟨fun h => (by rw [h] at hr; cases hr), fun j hj => ?_⟩
    have hjn : j < n := Nat.lt_of_not_le fun h => tail_waits hs hc hn inv _ i rfl hin (mem_ready.1 hr).1 j h hj
    refine ⟨hjn, ?_⟩
    rcases Nat.decEq j i with hji | rfl
    · obtain ⟨hjun, oj, hoj, hall⟩ := mem_ready.1 hj
      have hnot : ∀ e ∈ oj.after, Region.binds md e = true → e.on ≠ i := fun e he hb heq => by
        have h1 := hall e he hb
        rw [heq, getD_both (mem_ready.1 hr).1] at h1
        cases h1
      have h2 := qOp_put hoj (hfree j oj hoj hji hjun hnot) (fun cs b => hsel i oi cs b hi) (fun cs b => hsel j oj cs b hoj) hy (H.2 j (ready_mono hj hji)).2
      refine qOp_mono (fun a' h3 => ih (listed.setIfInBounds j true) a' (inv.set hj hjn) (fun k ok hk hki hun hno => ?_) (ready_mono hr (Ne.symm hji)) h3.1 ?_) h2
      · refine hfree k ok hk hki ?_ hno
        rcases Nat.decEq j k with hjk | rfl
        · rwa [getD_set_ne true hjk] at hun
        · exact hjun
      · rw [Array.setIfInBounds_comm _ _ hji]; exact h3.2
    · exact hy.qOp hi H

theorem HeadC.lex {n g : Nat} {Lq : Act → Prop} (hsel : Region.noSelect ops = true) (hs : Region.sinkB md ops n = true) (hc : Region.chainB md ops n = true) (hn : n < ops.size) (l : List Oper) :
    ∀ (k : Nat) (listed : Array Bool) (a : Act), (∀ j, j < l.length → l[j]? = ops[k + j]?) → k + l.length = n → HeadInv md ops n listed → Region.lexHead md ops g l.length k listed = true → wpQuiet P ops C Lq l a →
    HeadC P md ops C n (fun listed' a' => Region.seqB md ops g n listed' = true ∧ Lq a') l.length listed a := by
  induction l with
  | nil =>
    intro k listed a _ hk _ hB h
    obtain rfl : k = n := by simpa using hk
    exact ⟨by simpa [Region.lexHead] using hB, h⟩
  | cons o l ih =>
    intro k listed a hl hk inv hB h
    have h0 : ops[k]? = some o := by simpa using (hl 0 (by simp)).symm
    simp only [List.length_cons, Region.lexHead, Bool.and_eq_true] at hB
    obtain ⟨⟨hr, hf⟩, hB'⟩ := hB
    have hkn : k < n := by simp only [List.length_cons] at hk; omega
    have hr' : k ∈ Region.ready md ops listed := by simpa using hr
    have hst : qOp P ops C k (wpQuiet P ops C Lq l) a := by unfold qOp; simp only [h0]; exact h
    obtain ⟨v, hy, hK⟩ := yieldsIn_of_qOp h0 hst
    exact HeadC.first h0 (Region.noSelect_spec hsel) hs hc hn hkn (fun _ _ hL => seqB_ready hL.1) l.length listed a inv (Region.free_spec h0 hf) hr' hy
      (ih (k + 1) _ _ (fun j hj => by have := hl (j + 1) (by simp; omega); simpa [Nat.add_assoc, Nat.add_comm 1 j] using this) (by simp only [List.length_cons] at hk; omega) (inv.set hr' hkn) hB' hK)

theorem wp_region_quiet_tail {id : Nat} {Q : Exit → Act → World → Prop} {a : Act} {w : World} {l : List Oper} (n : Nat) (hm : P.follows .mixedOrders = true) (hB : Region.lexTailB .any l.toArray n = true) (hC : C { w with drawn := w.drawn + 1 })
    (h : wpQuiet P l.toArray C (fun a' => ∀ w', C w' → wpList P l.toArray Q (l.drop n) a' w') (l.take n) a) : (Code.region id l.toArray true).wp P Q a w := by
  simp only [Region.lexTailB, Bool.and_eq_true, decide_eq_true_eq] at hB
  obtain ⟨⟨⟨⟨hsel, hn⟩, hs⟩, hc⟩, hlex⟩ := hB
  have hn' : n < l.length := by simpa using hn
  have hlen : (l.take n).length = n := by simp; omega
  have inv : HeadInv .any l.toArray n (Array.replicate l.toArray.size false) := ⟨by simp, fun j oj _ hl => (by rw [getD_replicate_false] at hl; cases hl), fun t _ ht' => by simp at ht' ⊢; simp [ht']⟩
  have h1 := HeadC.lex (C := C) (g := l.toArray.size - n) hsel hs hc hn (l.take n) 0 _ a (fun j hj => by rw [List.getElem?_take]; simp at hj ⊢; omega) (by rw [hlen]; omega) inv (by rw [hlen]; exact hlex) h
  have h2 := HeadC.any (Q' := Q) (g := l.toArray.size - n) (fun listed' a' w' hw' hL => by
    have h3 := wpAny_of_seq (P := P) (md := .any) (ops := l.toArray) (l.drop n) n listed' a' w' (fun j => by simp) (by rw [show (l.drop n).length = l.toArray.size - n by simp]; exact hL.1) (hL.2 w' hw')
    rwa [show (l.drop n).length = l.toArray.size - n by simp] at h3) _ _ _ _ hC h1
  rw [hlen, show n + (l.toArray.size - n) = l.toArray.size by omega] at h2
  exact wp_region_any hm h2
end

theorem wp_region_gr_tail {P : Program} {id : Nat} {Q : Exit → Act → World → Prop} {a : Act} {w : World} {l : List Oper} (H n : Nat) (hm : P.follows .mixedOrders = true) (hB : Region.lexTailB .any l.toArray n = true)
    (h : wpQuiet P l.toArray (fun w' => ∃ g, w' = Gr H w g) (fun a' => ∀ w', (∃ g, w' = Gr H w g) → wpList P l.toArray Q (l.drop n) a' w') (l.take n) a) : (Code.region id l.toArray true).wp P Q a w :=
  wp_region_quiet_tail (C := fun w' => ∃ g, w' = Gr H w g) n hm hB (Gr.of ((Below.refl _ _).drew)) h

end Go.Proofs.Ytcljmnbjejcdaaa
