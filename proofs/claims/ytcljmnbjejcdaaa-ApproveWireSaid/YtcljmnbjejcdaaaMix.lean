/-
  A region that draws its order, some of whose operations make memory in between: where each operation is either the only one that may come up, or pure (one value in every world) and apart from the rest, one walk in the order of the text serves every order. Segment by segment: 'AtK k': the first k operations have come up.
-/
import Derived.Test.YtcljmnbjejcdaaaGrow
namespace Go.Proofs.Ytcljmnbjejcdaaa
open Go.RowKit

section
variable {P : Program} {ops : Array Oper} {md : Region.Mode}

def sUpon (P : Program) (o : Oper) (a : Act) (K : Act → World → Prop) : Result Next → Prop
  | .ok (.value v) w' => K (a.put o.dst v) w'
  | .ok .skip w' => K (a.put o.dst undef) w'
  | .ok (.defer d) w' => K ({ a with defers := d :: a.defers }.put o.dst undef) w'
  | .ok (.enter f args) w' => Calls P f args w' fun e w'' => ∃ v, e = .returned v ∧ K (a.put o.dst v) w''
  | .ok (.row row args) w' => Rows P row args w' fun v w'' => K (a.put o.dst v) w''
  | _ => False

theorem sUpon_mono {o : Oper} {a : Act} {K K' : Act → World → Prop} {r : Result Next} (h : ∀ a w, K a w → K' a w) (hh : sUpon P o a K r) : sUpon P o a K' r := by
  cases r with
  | ok n w' =>
    cases n <;> simp only [sUpon] at hh ⊢
    all_goals first
      | exact h _ _ hh
      | exact Calls.mono hh (fun e w'' ⟨v, he, hk⟩ => ⟨v, he, h _ _ hk⟩)
      | exact Rows.mono hh (fun _ _ he => h _ _ he)
      | exact hh
  | halt x w' => cases x <;> simp only [sUpon] at hh

theorem sUpon_wp {o : Oper} {a : Act} {w : World} {K : Act → World → Prop} {Q : Exit → Act → World → Prop} (hh : sUpon P o a K ((execOp a.eval o).run P w)) : o.wp P a w K Q := by
  unfold Oper.wp
  generalize (execOp a.eval o).run P w = r at *
  cases r with
  | ok n w' =>
    cases n <;> simp only [sUpon] at hh <;> simp only [Oper.upon]
    all_goals first
      | exact hh
      | exact Calls.mono hh (fun e w'' ⟨v, he, hk⟩ => by subst he; exact hk)
  | halt x w' => cases x <;> simp only [sUpon] at hh

theorem wp_sUpon {o : Oper} {a : Act} {w : World} {K : Act → World → Prop} {Q : Exit → Act → World → Prop} (hQ : ∀ e a w, Q e a w → e = .normal) (hh : o.wp P a w K Q) : sUpon P o a K ((execOp a.eval o).run P w) := by
  unfold Oper.wp at hh
  generalize (execOp a.eval o).run P w = r at *
  cases r with
  | ok n w' =>
    cases n <;> simp only [Oper.upon] at hh <;> simp only [sUpon]
    all_goals first
      | exact hh
      | exact Calls.mono hh (fun e w'' he => by
          cases e with
          | returned v => exact ⟨v, rfl, he⟩
          | panicked c => exact absurd (hQ _ _ _ he) (by simp)
          | outgrown => obtain ⟨a', w2, h2⟩ := he; exact absurd (hQ _ _ _ h2) (by simp))
  | halt x w' =>
    cases x <;> simp only [Oper.upon] at hh
    exact absurd (hQ _ _ _ hh) (by simp)

def sOp (P : Program) (ops : Array Oper) (i : Nat) (K : Act → World → Prop) (a : Act) (w : World) : Prop :=
  match ops[i]? with
  | none => K a w
  | some o => if Region.wanted o (yielded ops a.tmps) then sUpon P o a K ((execOp a.eval o).run P w) else K (a.put o.dst undef) w

theorem sOp_mono {i : Nat} {a : Act} {w : World} {K K' : Act → World → Prop} (h : ∀ a w, K a w → K' a w) (hh : sOp P ops i K a w) : sOp P ops i K' a w := by
  unfold sOp at *
  split
  · exact h _ _ (by simpa [*] using hh)
  · rename_i o ho
    simp only [ho] at hh
    split
    · rename_i hw; simp only [hw, if_true] at hh; exact sUpon_mono h hh
    · rename_i hw; simp only [hw] at hh; exact h _ _ hh

def anyS (P : Program) (md : Region.Mode) (ops : Array Oper) (Q : Act → World → Prop) : Nat → Array Bool → Act → World → Prop
  | 0, listed, a, w => Region.ready md ops listed = [] ∧ Q a w
  | f + 1, listed, a, w => (Region.ready md ops listed = [] → Q a w) ∧ ∀ i ∈ Region.ready md ops listed, sOp P ops i (anyS P md ops Q f (listed.setIfInBounds i true)) a w

theorem anyS_any {Q : Act → World → Prop} {Q' : Exit → Act → World → Prop} (hQ : ∀ a w, Q a w → Q' .normal a w) : ∀ (f : Nat) (listed : Array Bool) (a : Act) (w : World), anyS P md ops Q f listed a w → wpAny P md ops Q' f listed a w
  | 0, _, _, _, h => ⟨h.1, hQ _ _ h.2⟩
  | f + 1, listed, a, w, h => ⟨fun h0 => hQ _ _ (h.1 h0), fun i hi => by
      have h1 := h.2 i hi
      unfold sOp at h1
      unfold wpOp
      split
      · rename_i ho; simp only [ho] at h1; exact anyS_any hQ f _ _ _ h1
      · rename_i o ho
        simp only [ho] at h1
        split
        · rename_i hw; simp only [hw, if_true] at h1; exact .inl (sUpon_wp (sUpon_mono (fun a' w' => anyS_any hQ f _ a' w') h1))
        · rename_i hw; simp only [hw] at h1; exact anyS_any hQ f _ _ _ h1⟩

/-- one value in every world -/
abbrev Pure (P : Program) (ops : Array Oper) (o : Oper) (v : Value) (a : Act) : Prop := YieldsIn P ops (fun w => w = w) o v a ∧ (∀ w, Region.wanted o (yielded ops a.tmps) = true → (execOp a.eval o).run P w = .ok (.value v) w)

theorem Pure.of_same {o : Oper} {v : Value} {a a' : Act} (hy : Pure P ops o v a) (he : execOp a'.eval o = execOp a.eval o) (hw : Region.wanted o (yielded ops a'.tmps) = Region.wanted o (yielded ops a.tmps)) : Pure P ops o v a' :=
  ⟨hy.1.of_same he hw, fun w h => by rw [he]; exact hy.2 w (by rw [← hw]; exact h)⟩

theorem Pure.sOp {i : Nat} {o : Oper} {v : Value} {a : Act} {w : World} (hi : ops[i]? = some o) (hy : Pure P ops o v a) {K : Act → World → Prop} (h : K (a.put o.dst v) w) : sOp P ops i K a w := by
  unfold Go.Proofs.Ytcljmnbjejcdaaa.sOp
  simp only [hi]
  split
  · rename_i hw; rw [hy.2 w hw]; exact h
  · rename_i hw
    rcases hy.1 with ⟨h1, _⟩ | ⟨_, rfl⟩
    · exact absurd h1 hw
    · exact h

theorem put_defers (a : Act) (d : Deferred) (x : Option Tmp) (v : Value) : ({ a with defers := d :: a.defers } : Act).put x v = { a.put x v with defers := d :: (a.put x v).defers } := by cases x <;> rfl

theorem sOp_put {j : Nat} {oi oj : Oper} {v : Value} (hj : ops[j]? = some oj) (hap : oi.apart ops oj = true) (hsi : ∀ cs b, oi.op ≠ .select cs b) (hsj : ∀ cs b, oj.op ≠ .select cs b) {K : Act → World → Prop} {a : Act} {w : World}
    (hy : Pure P ops oi v a) (h : sOp P ops j K (a.put oi.dst v) w) : sOp P ops j (fun a' w' => Pure P ops oi v a' ∧ K (a'.put oi.dst v) w') a w := by
  obtain ⟨h1, h2, h3⟩ := Oper.apart_spec hap
  have keep : ∀ (a : Act), Pure P ops oi v a → ∀ u, Pure P ops oi v (a.put oj.dst u) := fun a hy u =>
    hy.of_same (execOp_put oi hsi a oj.dst u h3) (wanted_put oi a oj.dst u h3)
  unfold sOp at *
  simp only [hj] at *
  rw [wanted_put oj a oi.dst v h1] at h
  split
  · rename_i hw
    simp only [hw, if_true] at h
    rw [execOp_put oj hsj a oi.dst v h1] at h
    generalize (execOp a.eval oj).run P w = r at *
    cases r with
    | ok n w' =>
      cases n <;> simp only [sUpon] at h ⊢
      case value u => exact ⟨keep a hy u, by rw [← Act.put_comm a v u h2]; exact h⟩
      case skip => exact ⟨keep a hy _, by rw [← Act.put_comm a v undef h2]; exact h⟩
      case defer d =>
        refine ⟨(keep a hy undef).of_same ?_ ?_, ?_⟩
        · rw [put_defers]; rfl
        · rw [put_defers]
        · rw [put_defers, put_defers] at *
          rw [Act.put_comm a v undef h2] at h
          have e : ∀ (b : Act) (x : Option Tmp) (u : Value) (l : List Deferred), ({ b with defers := l } : Act).put x u = { b.put x u with defers := l } := fun b x u l => by cases x <;> rfl
          have e2 : ∀ (b : Act) (x : Option Tmp) (u : Value), (b.put x u).defers = b.defers := fun b x u => by cases x <;> rfl
          rw [e, e2] at *
          simp only [e2] at *
          exact h
      case enter f args => exact h.mono fun e w'' ⟨u, he, hk⟩ => ⟨u, he, keep a hy u, by rw [← Act.put_comm a v u h2]; exact hk⟩
      case row r args => exact h.mono fun u w'' hk => ⟨keep a hy u, by rw [← Act.put_comm a v u h2]; exact hk⟩
    | halt x w' => cases x <;> simp only [sUpon] at h
  · rename_i hw
    simp only [hw] at h
    exact ⟨keep a hy _, by rw [← Act.put_comm a v undef h2]; exact h⟩

theorem anyS_first {Q : Act → World → Prop} {i : Nat} {oi : Oper} {v : Value} (hi : ops[i]? = some oi) (hsel : ∀ (j : Nat) (o : Oper) cs b, ops[j]? = some o → o.op ≠ .select cs b) (f : Nat) :
    ∀ (listed : Array Bool) (a : Act) (w : World),
      (∀ j oj, ops[j]? = some oj → j ≠ i → listed.getD j true = false → (∀ e ∈ oj.after, Region.binds md e = true → e.on ≠ i) → oi.apart ops oj = true) →
      i ∈ Region.ready md ops listed → Pure P ops oi v a → anyS P md ops Q f (listed.setIfInBounds i true) (a.put oi.dst v) w → anyS P md ops Q (f + 1) listed a w := by
  induction f with
  | zero =>
    intro listed a w _ hr hy H
    refine ⟨fun h => (by rw [h] at hr; cases hr), fun j hj => ?_⟩
    rcases Nat.decEq j i with hji | rfl
    · have := ready_mono hj hji
      rw [H.1] at this
      cases this
    · exact hy.sOp hi H
  | succ f ih =>
    intro listed a w hfree hr hy H
    refine ⟨fun h => (by rw [h] at hr; cases hr), fun j hj => ?_⟩
    rcases Nat.decEq j i with hji | rfl
    · obtain ⟨hjun, oj, hoj, hall⟩ := mem_ready.1 hj
      have hnot : ∀ e ∈ oj.after, Region.binds md e = true → e.on ≠ i := fun e he hb heq => by
        have h1 := hall e he hb
        rw [heq, getD_both (mem_ready.1 hr).1] at h1
        cases h1
      have h2 := sOp_put hoj (hfree j oj hoj hji hjun hnot) (fun cs b => hsel i oi cs b hi) (fun cs b => hsel j oj cs b hoj) hy (H.2 j (ready_mono hj hji))
      refine sOp_mono (fun a' w' h3 => ih (listed.setIfInBounds j true) a' w' (fun k ok hk hki hun hno => ?_) (ready_mono hr (Ne.symm hji)) h3.1 ?_) h2
      · refine hfree k ok hk hki ?_ hno
        rcases Nat.decEq j k with hjk | rfl
        · rwa [getD_set_ne true hjk] at hun
        · exact hjun
      · rw [Array.setIfInBounds_comm _ _ hji]; exact h3.2
    · exact hy.sOp hi H

/-- the first k have come up -/
def pre (n k : Nat) : Array Bool := (List.replicate k true ++ List.replicate (n - k) false).toArray
theorem pre_set {n k : Nat} (h : k < n) : (pre n k).setIfInBounds k true = pre n (k + 1) := by
  obtain ⟨m, hm⟩ : ∃ m, n - k = m + 1 := ⟨n - k - 1, by omega⟩
  have hm2 : n - (k + 1) = m := by omega
  unfold pre
  rw [hm, hm2, List.replicate_succ, List.replicate_succ']
  simp only [List.setIfInBounds_toArray, List.append_assoc, List.singleton_append]
  congr 1
  rw [List.set_append_right _ _ (by simp)]
  simp
theorem pre_zero (n : Nat) : pre n 0 = Array.replicate n false := by
  unfold pre; simp

def AtK (P : Program) (l : List Oper) (Q : Act → World → Prop) (k : Nat) (a : Act) (w : World) : Prop := anyS P .any l.toArray Q (l.length - k) (pre l.length k) a w

theorem wp_region_mix {id : Nat} {Q : Exit → Act → World → Prop} {a : Act} {w : World} {l : List Oper} (hm : P.follows .mixedOrders = true) (h : AtK P l (Q .normal) 0 a { w with drawn := w.drawn + 1 }) : (Code.region id l.toArray true).wp P Q a w := by
  refine wp_region_any hm (anyS_any (Q := Q .normal) (fun _ _ h => h) _ _ _ _ ?_)
  have := h
  unfold AtK at this
  rw [pre_zero] at this
  simpa using this

/-- the next m operations come up one by one in this order, and no other -/
def Region.loneB (l : List Oper) : Nat → Nat → Bool
  | _, 0 => true
  | k, m + 1 => decide (k < l.length) && decide (Region.ready .any l.toArray (pre l.length k) = [k]) && Region.loneB l (k + 1) m

theorem AtK.lone {l : List Oper} {Q : Act → World → Prop} : ∀ (m k : Nat) (a : Act) (w : World), Region.loneB l k m = true →
    wpList P l.toArray (fun e a' w' => e = .normal ∧ AtK P l Q (k + m) a' w') ((l.drop k).take m) a w → AtK P l Q k a w
  | 0, k, a, w, _, h => by simpa [wpList] using h
  | m + 1, k, a, w, hB, h => by
    simp only [Region.loneB, Bool.and_eq_true, decide_eq_true_eq] at hB
    obtain ⟨⟨hk, hr⟩, hB'⟩ := hB
    have hd : l.drop k = l[k] :: l.drop (k + 1) := List.drop_eq_getElem_cons hk
    rw [hd, List.take_succ_cons] at h
    have h0 : l.toArray[k]? = some l[k] := by simp [hk]
    unfold AtK
    obtain ⟨f, hf⟩ : ∃ f, l.length - k = f + 1 := ⟨l.length - k - 1, by omega⟩
    rw [hf]
    refine ⟨fun h1 => (by rw [h1] at hr; cases hr), fun i hi => ?_⟩
    rw [hr] at hi
    obtain rfl : i = k := by simpa using hi
    rw [pre_set hk]
    have go : ∀ a' w', wpList P l.toArray (fun e a' w' => e = .normal ∧ AtK P l Q (i + (m + 1)) a' w') ((l.drop (i + 1)).take m) a' w' → anyS P .any l.toArray Q f (pre l.length (i + 1)) a' w' := fun a' w' h' => by
      have := AtK.lone m (i + 1) a' w' hB' (by rw [show i + 1 + m = i + (m + 1) by omega]; exact h')
      unfold AtK at this
      rwa [show l.length - (i + 1) = f by omega] at this
    unfold sOp
    simp only [h0]
    unfold wpList at h
    split
    · rename_i hw
      simp only [hw, if_true] at h
      rcases h with h | ⟨_, a', w', h', _⟩
      · exact sUpon_mono go (wp_sUpon (fun e a w h => h.1) h)
      · cases h'
    · rename_i hw
      simp only [hw] at h
      exact go _ _ h

/-- a move comes up whenever it likes -/
def Region.floatsB (l : List Oper) (k : Nat) : Bool := decide (k < l.length) && Region.noSelect l.toArray && (Region.ready .any l.toArray (pre l.length k)).contains k && Region.free .any l.toArray (pre l.length k) k

theorem AtK.pure {l : List Oper} {Q : Act → World → Prop} {k : Nat} {a : Act} {w : World} (hB : Region.floatsB l k = true) (o : Oper) (v : Value) (ho : l[k]? = some o) (hrun : ∀ w, (execOp a.eval o).run P w = .ok (.value v) w) (hw : Region.wanted o (yielded l.toArray a.tmps) = true)
    (h : AtK P l Q (k + 1) (a.put o.dst v) w) : AtK P l Q k a w := by
  simp only [Region.floatsB, Bool.and_eq_true, decide_eq_true_eq] at hB
  obtain ⟨⟨⟨hk, hs⟩, hr⟩, hf⟩ := hB
  have h0 : l.toArray[k]? = some o := by simpa using ho
  obtain ⟨f, hf'⟩ : ∃ f, l.length - k = f + 1 := ⟨l.length - k - 1, by omega⟩
  unfold AtK at h ⊢
  rw [hf']
  refine anyS_first h0 (Region.noSelect_spec hs) f _ a w (Region.free_spec h0 hf) (by simpa using hr) ⟨.inl ⟨hw, fun w _ => ?_⟩, fun w _ => hrun w⟩ ?_
  · unfold Oper.quietAt
    rw [hrun]
    exact ⟨rfl, rfl⟩
  · rw [pre_set hk]
    rwa [show l.length - (k + 1) = f by omega] at h
theorem AtK.move {l : List Oper} {Q : Act → World → Prop} {k : Nat} {a : Act} {w : World} (hB : Region.floatsB l k = true) (o : Oper) (x : Operand) (ho : l[k]? = some o) (hx : o.op = .move x) (hw : Region.wanted o (yielded l.toArray a.tmps) = true)
    (h : AtK P l Q (k + 1) (a.put o.dst (a.eval x)) w) : AtK P l Q k a w :=
  AtK.pure hB o (a.eval x) ho (fun w => by unfold execOp; simp [hx]) hw h

variable {C : World → Prop}
theorem sUpon_of_quiet {o : Oper} {a : Act} {K : Act → Prop} {K' : Act → World → Prop} {w : World} (hw : C w) (h : ∀ a w', C w' → K a → K' a w') (hh : o.quiet P a C K) : sUpon P o a K' ((execOp a.eval o).run P w) := by
  obtain ⟨v, h1, h2⟩ := hh
  have h3 := h1 w hw
  unfold Oper.quietAt at h3
  generalize (execOp a.eval o).run P w = r at *
  cases r with
  | ok n w' =>
    cases n <;> simp only [Oper.quietUpon] at h3 <;> simp only [sUpon]
    case value u =>
      obtain ⟨e1, e2⟩ := h3
      rw [e1, e2]
      exact h _ _ hw h2
    case skip =>
      obtain ⟨e1, e2⟩ := h3
      rw [e1, ← e2]
      exact h _ _ hw h2
    case enter f args =>
      obtain ⟨e1, hc⟩ := h3
      rw [e1]
      exact hc.mono fun e w'' ⟨he, hw''⟩ => ⟨v, he, h _ _ hw'' h2⟩
  | halt x w' => simp only [Oper.quietUpon] at h3

theorem anyS_of_quiet {Q : Act → Prop} {Q' : Act → World → Prop} (hQ : ∀ a w, C w → Q a → Q' a w) : ∀ (f : Nat) (listed : Array Bool) (a : Act) (w : World), C w → wpAnyQ P md ops C Q f listed a → anyS P md ops Q' f listed a w
  | 0, _, _, _, hw, h => ⟨h.1, hQ _ _ hw h.2⟩
  | f + 1, _, a, w, hw, h => ⟨fun h0 => hQ _ _ hw (h.1 h0), fun i hi => by
      have h1 := h.2 i hi
      unfold qOp at h1
      unfold sOp
      split
      · rename_i ho; simp only [ho] at h1; exact anyS_of_quiet hQ f _ _ _ hw h1
      · rename_i o ho
        simp only [ho] at h1
        split
        · rename_i hwn; simp only [hwn, if_true] at h1; exact sUpon_of_quiet hw (fun a' w' hw' h' => anyS_of_quiet hQ f _ a' w' hw' h') h1
        · rename_i hwn; simp only [hwn] at h1; exact anyS_of_quiet hQ f _ _ _ hw h1⟩

/-- from k on all is quiet -/
def Region.restB (l : List Oper) (k : Nat) : Bool := decide (k ≤ l.length) && Region.noSelect l.toArray && Region.lexFrom .any l.toArray (l.length - k) k (pre l.length k)

theorem AtK.quiet {l : List Oper} {Q : Act → World → Prop} {k : Nat} {a : Act} {w : World} (hB : Region.restB l k = true) (hC : C w)
    (h : wpQuiet P l.toArray C (fun a' => ∀ w', C w' → Q a' w') (l.drop k) a) : AtK P l Q k a w := by
  simp only [Region.restB, Bool.and_eq_true, decide_eq_true_eq] at hB
  obtain ⟨⟨hk, hs⟩, hB⟩ := hB
  have h1 := wpAnyQ_lex (C := C) (md := .any) hs (l.drop k) k (pre l.length k) a (fun j => by simp) (by simpa using hB) h
  unfold AtK
  refine anyS_of_quiet (C := C) (Q := fun a' => ∀ w', C w' → Q a' w') (fun a w hw h => h w hw) _ _ _ _ hC ?_
  simpa using h1

theorem AtK.gr {l : List Oper} {Q : Act → World → Prop} {k : Nat} {a : Act} {w : World} (H : Nat) (hB : Region.restB l k = true)
    (h : wpQuiet P l.toArray (fun w' => ∃ g, w' = Gr H w g) (fun a' => ∀ w', (∃ g, w' = Gr H w g) → Q a' w') (l.drop k) a) : AtK P l Q k a w :=
  AtK.quiet (C := fun w' => ∃ g, w' = Gr H w g) hB (Gr.of (Below.refl _ _)) h


/-! Where several may come up: each of them. 'AtL': those listed have come up. -/
def AtL (P : Program) (l : List Oper) (Q : Act → World → Prop) (f : Nat) (listed : Array Bool) (a : Act) (w : World) : Prop := anyS P .any l.toArray Q f listed a w

theorem AtL.of {l : List Oper} {Q : Act → World → Prop} {k : Nat} {a : Act} {w : World} (f : Nat) (listed : Array Bool) (hf : l.length - k = f) (hl : pre l.length k = listed) (h : AtL P l Q f listed a w) : AtK P l Q k a w := by
  subst hf hl; exact h
theorem AtL.to {l : List Oper} {Q : Act → World → Prop} {k f : Nat} {listed : Array Bool} {a : Act} {w : World} (hf : l.length - k = f) (hl : listed = pre l.length k) (h : AtK P l Q k a w) : AtL P l Q f listed a w := by
  subst hf hl; exact h

theorem sOp_of_list {i : Nat} {o : Oper} {K : Act → World → Prop} {a : Act} {w : World} (hi : ops[i]? = some o) (h : wpList P ops (fun e a' w' => e = .normal ∧ K a' w') [o] a w) : sOp P ops i K a w := by
  unfold sOp
  simp only [hi]
  unfold wpList at h
  have hK : ∀ a' w', wpList P ops (fun e a' w' => e = .normal ∧ K a' w') [] a' w' → K a' w' := fun a' w' h => h.2
  split
  · rename_i hw
    simp only [hw, if_true] at h
    rcases h with h | ⟨_, a', w', h', _⟩
    · exact sUpon_mono hK (wp_sUpon (fun e a w h => h.1) h)
    · cases h'
  · rename_i hw
    simp only [hw] at h
    exact hK _ _ h

theorem AtL.one {l : List Oper} {Q : Act → World → Prop} {f i : Nat} {listed : Array Bool} {a : Act} {w : World} (hr : Region.ready .any l.toArray listed = [i]) (o : Oper) (ho : l[i]? = some o)
    (h : wpList P l.toArray (fun e a' w' => e = .normal ∧ AtL P l Q f (listed.setIfInBounds i true) a' w') [o] a w) : AtL P l Q (f + 1) listed a w := by
  refine ⟨fun h1 => (by rw [h1] at hr; cases hr), fun j hj => ?_⟩
  rw [hr] at hj
  obtain rfl : j = i := by simpa using hj
  exact sOp_of_list (by simpa using ho) h

theorem AtL.two {l : List Oper} {Q : Act → World → Prop} {f i j : Nat} {listed : Array Bool} {a : Act} {w : World} (hr : Region.ready .any l.toArray listed = [i, j]) (o o' : Oper) (ho : l[i]? = some o) (ho' : l[j]? = some o')
    (h : wpList P l.toArray (fun e a' w' => e = .normal ∧ AtL P l Q f (listed.setIfInBounds i true) a' w') [o] a w) (h' : wpList P l.toArray (fun e a' w' => e = .normal ∧ AtL P l Q f (listed.setIfInBounds j true) a' w') [o'] a w) : AtL P l Q (f + 1) listed a w := by
  refine ⟨fun h1 => (by rw [h1] at hr; cases hr), fun k hk => ?_⟩
  rw [hr] at hk
  have h2 : k = i ∨ k = j := by simpa using hk
  rcases h2 with rfl | rfl
  · exact sOp_of_list (by simpa using ho) h
  · exact sOp_of_list (by simpa using ho') h'

/-- a pure operation comes up whenever it likes -/
theorem AtL.pure {l : List Oper} {Q : Act → World → Prop} {f i : Nat} {listed : Array Bool} {a : Act} {w : World} (hB : (Region.noSelect l.toArray && (Region.ready .any l.toArray listed).contains i && Region.free .any l.toArray listed i) = true) (o : Oper) (v : Value) (ho : l[i]? = some o)
    (hrun : ∀ w, (execOp a.eval o).run P w = .ok (.value v) w) (hw : Region.wanted o (yielded l.toArray a.tmps) = true) (h : AtL P l Q f (listed.setIfInBounds i true) (a.put o.dst v) w) : AtL P l Q (f + 1) listed a w := by
  simp only [Bool.and_eq_true] at hB
  obtain ⟨⟨hs, hr⟩, hf⟩ := hB
  have h0 : l.toArray[i]? = some o := by simpa using ho
  refine anyS_first h0 (Region.noSelect_spec hs) f _ a w (Region.free_spec h0 hf) (by simpa using hr) ⟨.inl ⟨hw, fun w _ => ?_⟩, fun w _ => hrun w⟩ h
  unfold Oper.quietAt
  rw [hrun]
  exact ⟨rfl, rfl⟩
theorem AtL.move {l : List Oper} {Q : Act → World → Prop} {f i : Nat} {listed : Array Bool} {a : Act} {w : World} (hB : (Region.noSelect l.toArray && (Region.ready .any l.toArray listed).contains i && Region.free .any l.toArray listed i) = true) (o : Oper) (x : Operand) (ho : l[i]? = some o)
    (hx : o.op = .move x) (hw : Region.wanted o (yielded l.toArray a.tmps) = true) (h : AtL P l Q f (listed.setIfInBounds i true) (a.put o.dst (a.eval x)) w) : AtL P l Q (f + 1) listed a w :=
  AtL.pure hB o (a.eval x) ho (fun w => by unfold execOp; simp [hx]) hw h

end
end Go.Proofs.Ytcljmnbjejcdaaa
