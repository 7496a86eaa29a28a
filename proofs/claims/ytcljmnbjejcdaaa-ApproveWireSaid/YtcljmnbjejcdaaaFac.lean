/-
  A region that draws its order, whose operations read and MAKE memory in any order: each operation is shown once, in any world of the class, from the facts of those operations that it waits for; makers leave a value that is known by a fact alone. A forced tail may follow.
-/
import Derived.Test.YtcljmnbjejcdaaaMix
namespace Go.Proofs.Ytcljmnbjejcdaaa
open Go.RowKit

section
variable {P : Program} {ops : Array Oper} {md : Region.Mode}

/-- what an operation leaves, without the frame -/
def nUpon (P : Program) (R : Value → World → Prop) : Result Next → Prop
  | .ok (.value v) w' => R v w'
  | .ok .skip w' => R undef w'
  | .ok (.enter f args) w' => Calls P f args w' fun e w'' => ∃ v, e = .returned v ∧ R v w''
  | .ok (.row row args) w' => Rows P row args w' R
  | _ => False

theorem nUpon_mono {R R' : Value → World → Prop} {r : Result Next} (h : ∀ v w, R v w → R' v w) (hh : nUpon P R r) : nUpon P R' r := by
  cases r with
  | ok n w' =>
    cases n <;> simp only [nUpon] at hh ⊢
    all_goals first
      | exact h _ _ hh
      | exact Calls.mono hh (fun e w'' ⟨v, he, hk⟩ => ⟨v, he, h _ _ hk⟩)
      | exact Rows.mono hh h
      | exact hh
  | halt x w' => simp only [nUpon] at hh

theorem sUpon_of_n {o : Oper} {a : Act} {K : Act → World → Prop} {r : Result Next} (hh : nUpon P (fun v w => K (a.put o.dst v) w) r) : sUpon P o a K r := by
  cases r with
  | ok n w' =>
    cases n <;> simp only [nUpon] at hh <;> simp only [sUpon] <;> exact hh
  | halt x w' => simp only [nUpon] at hh

def nOp (P : Program) (ops : Array Oper) (o : Oper) (a : Act) (w : World) (R : Value → World → Prop) : Prop :=
  if Region.wanted o (yielded ops a.tmps) then nUpon P R ((execOp a.eval o).run P w) else R undef w

theorem nOp_mono {o : Oper} {a : Act} {w : World} {R R' : Value → World → Prop} (h : ∀ v w, R v w → R' v w) (hh : nOp P ops o a w R) : nOp P ops o a w R' := by
  unfold nOp at *
  split
  · rename_i hw; rw [if_pos hw] at hh; exact nUpon_mono h hh
  · rename_i hw; rw [if_neg hw] at hh; exact h _ _ hh

theorem sOp_of_n {i : Nat} {o : Oper} {a : Act} {w : World} {K : Act → World → Prop} (hi : ops[i]? = some o) (h : nOp P ops o a w (fun v w' => K (a.put o.dst v) w')) : sOp P ops i K a w := by
  unfold nOp at h
  unfold Go.Proofs.Ytcljmnbjejcdaaa.sOp
  simp only [hi]
  split
  · rename_i hw; rw [if_pos hw] at h; exact sUpon_of_n h
  · rename_i hw; rw [if_neg hw] at h; exact h

theorem nOp_put {o : Oper} {a : Act} {w : World} {R : Value → World → Prop} {d : Option Tmp} {v : Value} (hs : ∀ cs b, o.op ≠ .select cs b) (h : ∀ t, d = some t → t ∉ o.looksAt ops) : nOp P ops o (a.put d v) w R ↔ nOp P ops o a w R := by
  unfold nOp
  rw [wanted_put o a d v h, execOp_put o hs a d v h]

def dstOf (ops : Array Oper) (i : Nat) : Option Tmp := (ops[i]?).bind (·.dst)
theorem dstOf_eq {i : Nat} {o : Oper} (h : ops[i]? = some o) : dstOf ops i = o.dst := by unfold dstOf; rw [h]; rfl

/-- the makers' values -/
def puts (ops : Array Oper) (mk : List Nat) (vs : Nat → Value) (a : Act) : Act := mk.foldl (fun a i => a.put (dstOf ops i) (vs i)) a

def Dist (ops : Array Oper) : Prop := ∀ i j, i ≠ j → ∀ d, dstOf ops i = some d → dstOf ops j ≠ some d

theorem puts_nil (vs : Nat → Value) (a : Act) : puts ops [] vs a = a := rfl
theorem puts_cons (i : Nat) (mk : List Nat) (vs : Nat → Value) (a : Act) : puts ops (i :: mk) vs a = puts ops mk vs (a.put (dstOf ops i) (vs i)) := rfl
theorem puts_snoc (mk : List Nat) (i : Nat) (vs : Nat → Value) (a : Act) : puts ops (mk ++ [i]) vs a = (puts ops mk vs a).put (dstOf ops i) (vs i) := by
  unfold puts; rw [List.foldl_append]; rfl
theorem puts_put {mk : List Nat} (vs : Nat → Value) {d : Option Tmp} {v : Value} : ∀ {a : Act}, (∀ j ∈ mk, ∀ t, d = some t → dstOf ops j ≠ some t) → puts ops mk vs (a.put d v) = (puts ops mk vs a).put d v := by
  induction mk with
  | nil => intro a _; rfl
  | cons i mk ih =>
    intro a h
    rw [puts_cons, puts_cons, Act.put_comm a v (vs i) (fun t ht => h i (by simp) t ht), ih (fun j hj => h j (by simp [hj]))]
theorem puts_upd {mk : List Nat} {i : Nat} (hi : i ∉ mk) (vs : Nat → Value) (v : Value) : ∀ a, puts ops mk (fun j => if j = i then v else vs j) a = puts ops mk vs a := by
  induction mk with
  | nil => intro a; rfl
  | cons j mk ih =>
    intro a
    have hj : j ≠ i := fun e => hi (by simp [e])
    rw [puts_cons, puts_cons, if_neg hj, ih (fun h => hi (by simp [h]))]
theorem puts_perm (hD : Dist ops) {mk mk' : List Nat} (h : mk.Perm mk') (vs : Nat → Value) : ∀ a, puts ops mk vs a = puts ops mk' vs a := by
  induction h with
  | nil => intro a; rfl
  | cons i _ ih => intro a; rw [puts_cons, puts_cons, ih]
  | swap i j l =>
    intro a
    rw [puts_cons, puts_cons, puts_cons, puts_cons]
    rcases Nat.decEq i j with hne | rfl
    · rw [Act.put_comm a (vs j) (vs i) (fun d hd => hD j i (Ne.symm hne) d hd)]
    · rfl
  | trans _ _ ih1 ih2 => intro a; rw [ih1, ih2]

/-- the setting: the class C, what a step may do G, the makers' facts ks -/
structure Fcs where
  C : World → Prop
  G : World → World → Prop
  ks : Nat → Option (Value → World → Prop)
structure Fcs.Ok (S : Fcs) : Prop where
  C : ∀ w w', S.C w → S.G w w' → S.C w'
  F : ∀ i F, S.ks i = some F → ∀ v w w', F v w → S.G w w' → F v w'

def waits (o : Oper) (j : Nat) : Bool := o.after.any (fun e => Region.binds .any e && e.on == j)

/-- the facts of those makers that o waits for -/
def Known (S : Fcs) (o : Oper) (mk : List Nat) (vs : Nat → Value) (w : World) : Prop := ∀ j ∈ mk, waits o j = true → ∀ F, S.ks j = some F → F (vs j) w
def OkF (P : Program) (ops : Array Oper) (S : Fcs) (o : Oper) (mk : List Nat) (a : Act) (R : Value → World → Prop) : Prop :=
  ∀ vs w, S.C w → Known S o mk vs w → nOp P ops o (puts ops mk vs a) w (fun v w' => R v w' ∧ S.G w w')

def stepF (P : Program) (ops : Array Oper) (S : Fcs) (i : Nat) (o : Oper) (mk : List Nat) (a : Act) (K : List Nat → Act → Prop) : Prop :=
  (S.ks i = none ∧ ∃ c, OkF P ops S o mk a (fun v _ => v = c) ∧ K mk (a.put o.dst c)) ∨
  (∃ F, S.ks i = some F ∧ OkF P ops S o mk a F ∧ K (mk ++ [i]) a)

theorem stepF_mono {S : Fcs} {i : Nat} {o : Oper} {mk : List Nat} {a : Act} {K K' : List Nat → Act → Prop} (h : ∀ mk a, K mk a → K' mk a) (hh : stepF P ops S i o mk a K) : stepF P ops S i o mk a K' := by
  rcases hh with ⟨h0, c, h1, h2⟩ | ⟨F, h0, h1, h2⟩
  · exact .inl ⟨h0, c, h1, h _ _ h2⟩
  · exact .inr ⟨F, h0, h1, h _ _ h2⟩

section
variable {S : Fcs} {o : Oper} {mk : List Nat} {a : Act} {R : Value → World → Prop}
theorem Known.perm {mk' : List Nat} {vs : Nat → Value} {w : World} (hp : mk.Perm mk') (h : Known S o mk vs w) : Known S o mk' vs w := fun j hj => h j (hp.mem_iff.2 hj)
theorem OkF.perm {mk' : List Nat} (hD : Dist ops) (hp : mk.Perm mk') (h : OkF P ops S o mk a R) : OkF P ops S o mk' a R := fun vs w hC hK => by
  rw [← puts_perm hD hp]; exact h vs w hC (hK.perm hp.symm)
theorem stepF_perm {i : Nat} {mk' : List Nat} {K K' : List Nat → Act → Prop} (hD : Dist ops) (hp : mk.Perm mk') (hK : ∀ m m' a, m.Perm m' → K m a → K' m' a) (h : stepF P ops S i o mk a K) : stepF P ops S i o mk' a K' := by
  rcases h with ⟨h0, c, h1, h2⟩ | ⟨F, h0, h1, h2⟩
  · exact .inl ⟨h0, c, h1.perm hD hp, hK _ _ _ hp h2⟩
  · exact .inr ⟨F, h0, h1.perm hD hp, hK _ _ _ (hp.append_right _) h2⟩

/-- a constant more in the frame -/
theorem OkF.put_iff {d : Option Tmp} {c : Value} (hs : ∀ cs b, o.op ≠ .select cs b) (hd : ∀ t, d = some t → t ∉ o.looksAt ops) (hm : ∀ j ∈ mk, ∀ t, d = some t → dstOf ops j ≠ some t) : OkF P ops S o mk (a.put d c) R ↔ OkF P ops S o mk a R := by
  constructor
  · intro h vs w hC hK
    have := h vs w hC hK
    rw [puts_put vs hm] at this
    exact (nOp_put hs hd).1 this
  · intro h vs w hC hK
    rw [puts_put vs hm]
    exact (nOp_put hs hd).2 (h vs w hC hK)
/-- a maker more in the frame -/
theorem OkF.mk_iff {i : Nat} (hs : ∀ cs b, o.op ≠ .select cs b) (hd : ∀ t, dstOf ops i = some t → t ∉ o.looksAt ops) (hw : waits o i = false) : OkF P ops S o (mk ++ [i]) a R ↔ OkF P ops S o mk a R := by
  constructor
  · intro h vs w hC hK
    have := h vs w hC (fun j hj hwt F hF => by
      rcases List.mem_append.1 hj with hj | hj
      · exact hK j hj hwt F hF
      · have : j = i := by simpa using hj
        subst this; rw [hw] at hwt; cases hwt)
    rw [puts_snoc] at this
    exact (nOp_put hs hd).1 this
  · intro h vs w hC hK
    rw [puts_snoc]
    exact (nOp_put hs hd).2 (h vs w hC (fun j hj => hK j (by simp [hj])))
theorem OkF.weak {i : Nat} (hs : ∀ cs b, o.op ≠ .select cs b) (hd : ∀ t, dstOf ops i = some t → t ∉ o.looksAt ops) (h : OkF P ops S o mk a R) : OkF P ops S o (mk ++ [i]) a R := fun vs w hC hK => by
  rw [puts_snoc]
  exact (nOp_put hs hd).2 (h vs w hC (fun j hj => hK j (by simp [hj])))
end

def headF (P : Program) (md : Region.Mode) (ops : Array Oper) (S : Fcs) (n : Nat) (L : Array Bool → List Nat → Act → Prop) : Nat → Array Bool → List Nat → Act → Prop
  | 0, listed, mk, a => L listed mk a
  | f + 1, listed, mk, a => Region.ready md ops listed ≠ [] ∧ ∀ i ∈ Region.ready md ops listed, i < n ∧ ∀ o, ops[i]? = some o → stepF P ops S i o mk a (headF P md ops S n L f (listed.setIfInBounds i true))

theorem headF_perm {S : Fcs} {n : Nat} {L : Array Bool → List Nat → Act → Prop} (hD : Dist ops) (hL : ∀ l m m' a, m.Perm m' → L l m a → L l m' a) : ∀ (f : Nat) (listed : Array Bool) (m m' : List Nat) (a : Act), m.Perm m' → headF P md ops S n L f listed m a → headF P md ops S n L f listed m' a
  | 0, _, _, _, _, hp, h => hL _ _ _ _ hp h
  | f + 1, _, _, _, _, hp, h => ⟨h.1, fun i hi => ⟨(h.2 i hi).1, fun o ho => stepF_perm hD hp (fun _ _ _ hp' h' => headF_perm hD hL f _ _ _ _ hp' h') ((h.2 i hi).2 o ho)⟩⟩

/-- j waits for i, at once or through others -/
def behind (ops : Array Oper) : Nat → Nat → Nat → Bool
  | 0, _, _ => false
  | f + 1, j, i => match ops[j]? with
    | some oj => oj.after.any (fun e => Region.binds .any e && (e.on == i || behind ops f e.on i))
    | none => false
def freeT (ops : Array Oper) (listed : Array Bool) (i : Nat) : Bool :=
  match ops[i]? with
  | none => false
  | some oi => (List.range ops.size).all fun j => j == i || listed.getD j true || match ops[j]? with
      | some oj => oi.apart ops oj || behind ops ops.size j i
      | none => true

structure Closed (ops : Array Oper) (listed : Array Bool) : Prop where
  closed : ∀ j oj, ops[j]? = some oj → listed.getD j false = true → ∀ e ∈ oj.after, Region.binds .any e = true → listed.getD e.on false = true
theorem Closed.set {listed : Array Bool} (h : Closed ops listed) {i : Nat} (hi : i ∈ Region.ready .any ops listed) : Closed ops (listed.setIfInBounds i true) := by
  obtain ⟨_, oi, hoi, hall⟩ := mem_ready.1 hi
  refine ⟨fun j oj hj hl e he hb => ?_⟩
  by_cases hij : i = j
  · subst hij
    have : oj = oi := Option.some.inj (hj.symm.trans hoi)
    subst this
    exact getD_set_true (hall e he hb)
  · rw [getD_set_ne false hij] at hl
    exact getD_set_true (h.closed j oj hj hl e he hb)
theorem Closed.behind {listed : Array Bool} (h : Closed ops listed) : ∀ (f j i : Nat), (∃ oj, ops[j]? = some oj ∧ ∀ e ∈ oj.after, Region.binds .any e = true → listed.getD e.on false = true) → behind ops f j i = true → listed.getD i false = true
  | 0, _, _, _, hb => by simp [Go.Proofs.Ytcljmnbjejcdaaa.behind] at hb
  | f + 1, j, i, ⟨oj, hj, hall⟩, hb => by
    unfold Go.Proofs.Ytcljmnbjejcdaaa.behind at hb
    simp only [hj] at hb
    obtain ⟨e, he, hb⟩ := Array.any_eq_true'.1 hb
    rw [Bool.and_eq_true, Bool.or_eq_true, beq_iff_eq] at hb
    have hl := hall e he hb.1
    rcases hb.2 with h1 | h1
    · rw [← h1]; exact hl
    · have hlt : ∃ oe, ops[e.on]? = some oe := by
        cases f with
        | zero => simp [Go.Proofs.Ytcljmnbjejcdaaa.behind] at h1
        | succ f =>
          unfold Go.Proofs.Ytcljmnbjejcdaaa.behind at h1
          split at h1
          · exact ⟨_, ‹_›⟩
          · cases h1
      obtain ⟨oe, hoe⟩ := hlt
      exact Closed.behind h f e.on i ⟨oe, hoe, fun e' he' hb' => h.closed e.on oe hoe hl e' he' hb'⟩ h1
theorem freeT_spec {listed : Array Bool} (hc : Closed ops listed) {i : Nat} {oi : Oper} (hi : ops[i]? = some oi) (hu : listed.getD i true = false) (h : freeT ops listed i = true) {j : Nat} {oj : Oper} (hj : ops[j]? = some oj) (hne : j ≠ i) (hr : j ∈ Region.ready .any ops listed) : oi.apart ops oj = true := by
  obtain ⟨hjun, oj', hj', hall⟩ := mem_ready.1 hr
  obtain rfl : oj = oj' := Option.some.inj (hj.symm.trans hj')
  simp only [freeT, hi, List.all_eq_true, List.mem_range] at h
  have h1 := h j (Array.getElem?_eq_some_iff.1 hj).1
  simp only [hj, Bool.or_eq_true, beq_iff_eq, hne, false_or, hjun, Bool.false_eq_true] at h1
  rcases h1 with h1 | h1
  · exact h1
  · have := hc.behind _ j i ⟨oj, hj, hall⟩ h1
    rw [getD_both hu] at this
    cases this
theorem freeT_mono {listed : Array Bool} {i j : Nat} (h : freeT ops listed i = true) : freeT ops (listed.setIfInBounds j true) i = true := by
  unfold freeT at *
  split
  · rename_i hi; simp [hi] at h
  · rename_i oi hi
    simp only [hi, List.all_eq_true, List.mem_range] at h ⊢
    intro k hk
    have := h k hk
    rcases Nat.decEq j k with hjk | rfl
    · rw [getD_set_ne true hjk]; exact this
    · rw [Bool.or_eq_true] at this ⊢
      rcases this with h1 | h1
      · left
        rw [Bool.or_eq_true] at h1 ⊢
        rcases h1 with h1 | h1
        · exact .inl h1
        · right
          have hsz : ∀ b : Bool, (listed.setIfInBounds j true).getD j b = true ∨ listed.size ≤ j := fun b => by
            rcases Nat.lt_or_ge j listed.size with h | h
            · left; simp [h]
            · exact .inr h
          rcases hsz true with h2 | h2
          · exact h2
          · simp
      · exact .inr h1

theorem headF_first {S : Fcs} {n i : Nat} {oi : Oper} {L : Array Bool → List Nat → Act → Prop} {Inv : Array Bool → Prop} (hi : ops[i]? = some oi) (hsel : ∀ (j : Nat) (o : Oper) cs b, ops[j]? = some o → o.op ≠ .select cs b) (hD : Dist ops)
    (hL : ∀ l m m' a, m.Perm m' → L l m a → L l m' a) (hin : i < n) (hcl : ∀ l, Inv l → Closed ops l) (hset : ∀ l j, Inv l → j ∈ Region.ready .any ops l → j < n → Inv (l.setIfInBounds j true)) (hlt : ∀ l, Inv l → i ∈ Region.ready .any ops l → ∀ j ∈ Region.ready .any ops l, j < n)
    (hdone : ∀ l m a, L l m a → ∀ j ∈ Region.ready .any ops l, n ≤ j) (f : Nat) :
    ∀ (listed : Array Bool) (mk : List Nat) (a : Act), Inv listed → freeT ops listed i = true → i ∈ Region.ready .any ops listed → (∀ j ∈ mk, listed.getD j true = true) →
      stepF P ops S i oi mk a (headF P .any ops S n L f (listed.setIfInBounds i true)) → headF P .any ops S n L (f + 1) listed mk a := by
  induction f with
  | zero =>
    intro listed mk a inv hfree hr hmk H
    refine ⟨fun h => (by rw [h] at hr; cases hr), fun j hj => ?_⟩
    have hjn := hlt _ inv hr j hj
    refine ⟨hjn, fun o ho => ?_⟩
    rcases Nat.decEq j i with hji | rfl
    · exfalso
      have : n ≤ j := by
        rcases H with ⟨_, c, _, h2⟩ | ⟨F, _, _, h2⟩
        · exact hdone _ _ _ h2 j (ready_mono hj hji)
        · exact hdone _ _ _ h2 j (ready_mono hj hji)
      omega
    · obtain rfl : oi = o := Option.some.inj (hi.symm.trans ho)
      exact H
  | succ f ih =>
    intro listed mk a inv hfree hr hmk H
    refine ⟨fun h => (by rw [h] at hr; cases hr), fun j hj => ?_⟩
    have hjn := hlt _ inv hr j hj
    refine ⟨hjn, fun oj hoj => ?_⟩
    rcases Nat.decEq j i with hji | rfl
    · have hap := freeT_spec (hcl _ inv) hi (mem_ready.1 hr).1 hfree hoj hji hj
      obtain ⟨a1, a2, a3⟩ := Oper.apart_spec hap
      have hsi := fun cs b => hsel i oi cs b hi
      have hsj := fun cs b => hsel j oj cs b hoj
      have di := dstOf_eq hi
      have dj := dstOf_eq hoj
      have hwij : waits oj i = false := by
        rw [Bool.eq_false_iff]
        intro h
        unfold waits at h
        obtain ⟨e, he, hb⟩ := Array.any_eq_true'.1 h
        simp only [Bool.and_eq_true, beq_iff_eq] at hb
        obtain ⟨_, oj', hoj', hall⟩ := mem_ready.1 hj
        obtain rfl : oj = oj' := Option.some.inj (hoj.symm.trans hoj')
        have := hall e he hb.1
        rw [hb.2, getD_both (mem_ready.1 hr).1] at this
        cases this
      have hmi : ∀ k ∈ mk, k ≠ i := fun k hk e => by subst e; have := hmk k hk; rw [(mem_ready.1 hr).1] at this; cases this
      have hmj : ∀ k ∈ mk, k ≠ j := fun k hk e => by subst e; have := hmk k hk; rw [(mem_ready.1 hj).1] at this; cases this
      have hmi' : ∀ k ∈ mk, ∀ t, oi.dst = some t → dstOf ops k ≠ some t := fun k hk t ht => hD i k (Ne.symm (hmi k hk)) t (by rw [di]; exact ht)
      have hmj' : ∀ k ∈ mk, ∀ t, oj.dst = some t → dstOf ops k ≠ some t := fun k hk t ht => hD j k (Ne.symm (hmj k hk)) t (by rw [dj]; exact ht)
      have hmk' : ∀ k ∈ mk, (listed.setIfInBounds j true).getD k true = true := fun k hk => by
        rw [getD_set_ne true (Ne.symm (hmj k hk))]; exact hmk k hk
      have hmk2 : ∀ k ∈ mk ++ [j], (listed.setIfInBounds j true).getD k true = true := fun k hk => by
        rcases List.mem_append.1 hk with hk | hk
        · exact hmk' k hk
        · have : k = j := by simpa using hk
          subst this
          rcases Nat.lt_or_ge k listed.size with h | h
          · simp [h]
          · simp
      have inv' := hset _ j inv hj hjn
      have hfree' : freeT ops (listed.setIfInBounds j true) i = true := freeT_mono hfree
      have hr' := ready_mono hr (Ne.symm hji)
      have hcomm := Array.setIfInBounds_comm (a := true) (b := true) (xs := listed) (i := j) (j := i) hji
      rcases H with ⟨h0, c, h1, h2⟩ | ⟨F, h0, h1, h2⟩
      · have hs := (h2.2 j (ready_mono hj hji)).2 oj hoj
        rcases hs with ⟨k0, u, k1, k2⟩ | ⟨F', k0, k1, k2⟩
        · refine .inl ⟨k0, u, (OkF.put_iff hsj a1 hmi').1 k1, ih _ _ _ inv' hfree' hr' hmk' (.inl ⟨h0, c, (OkF.put_iff hsi a3 hmj').2 h1, ?_⟩)⟩
          rw [← Act.put_comm a c u a2, hcomm]
          exact k2
        · refine .inr ⟨F', k0, (OkF.put_iff hsj a1 hmi').1 k1, ih _ _ _ inv' hfree' hr' hmk2 (.inl ⟨h0, c, h1.weak hsi (by rw [dj]; exact a3), ?_⟩)⟩
          rw [hcomm]
          exact k2
      · have hs := (h2.2 j (ready_mono hj hji)).2 oj hoj
        rcases hs with ⟨k0, u, k1, k2⟩ | ⟨F', k0, k1, k2⟩
        · refine .inl ⟨k0, u, (OkF.mk_iff hsj (by rw [di]; exact a1) hwij).1 k1, ih _ _ _ inv' hfree' hr' hmk' (.inr ⟨F, h0, (OkF.put_iff hsi a3 hmj').2 h1, ?_⟩)⟩
          rw [hcomm]
          exact k2
        · refine .inr ⟨F', k0, (OkF.mk_iff hsj (by rw [di]; exact a1) hwij).1 k1, ih _ _ _ inv' hfree' hr' hmk2 (.inr ⟨F, h0, h1.weak hsi (by rw [dj]; exact a3), ?_⟩)⟩
          rw [hcomm]
          refine headF_perm hD hL _ _ _ _ _ ?_ k2
          rw [List.append_assoc, List.append_assoc]
          exact List.Perm.append_left _ (List.Perm.swap _ _ _)
    · obtain rfl : oi = oj := Option.some.inj (hi.symm.trans hoj)
      exact H

/-- the walk in the order of the text -/
def wpF (P : Program) (ops : Array Oper) (S : Fcs) (L : List Nat → Act → Prop) : Nat → List Oper → List Nat → Act → Prop
  | _, [], mk, a => L mk a
  | k, o :: rest, mk, a => stepF P ops S k o mk a (wpF P ops S L (k + 1) rest)

def lexG (ops : Array Oper) (fin : Array Bool → Bool) : Nat → Nat → Array Bool → Bool
  | 0, _, listed => fin listed
  | f + 1, k, listed => (Region.ready .any ops listed).contains k && freeT ops listed k && lexG ops fin f (k + 1) (listed.setIfInBounds k true)

theorem headF_lex {S : Fcs} {n : Nat} {fin : Array Bool → Bool} {L : List Nat → Act → Prop} {Inv : Array Bool → Prop} (hsel : Region.noSelect ops = true) (hD : Dist ops)
    (hL : ∀ m m' a, m.Perm m' → L m a → L m' a) (hcl : ∀ l, Inv l → Closed ops l) (hset : ∀ l j, Inv l → j ∈ Region.ready .any ops l → j < n → Inv (l.setIfInBounds j true)) (hlt : ∀ l i, i < n → Inv l → i ∈ Region.ready .any ops l → ∀ j ∈ Region.ready .any ops l, j < n)
    (hdone : ∀ l, fin l = true → ∀ j ∈ Region.ready .any ops l, n ≤ j) (l : List Oper) :
    ∀ (k : Nat) (listed : Array Bool) (mk : List Nat) (a : Act), (∀ j, j < l.length → l[j]? = ops[k + j]?) → k + l.length = n → Inv listed → (∀ j ∈ mk, listed.getD j true = true) → lexG ops fin l.length k listed = true → wpF P ops S L k l mk a →
      headF P .any ops S n (fun listed mk a => fin listed = true ∧ L mk a) l.length listed mk a := by
  induction l with
  | nil =>
    intro k listed mk a _ hk _ _ hB h
    exact ⟨by simpa [lexG] using hB, h⟩
  | cons o l ih =>
    intro k listed mk a hl hk inv hmk hB h
    have h0 : ops[k]? = some o := by simpa using (hl 0 (by simp)).symm
    simp only [List.length_cons, lexG, Bool.and_eq_true] at hB
    obtain ⟨⟨hr, hf⟩, hB'⟩ := hB
    have hkn : k < n := by simp only [List.length_cons] at hk; omega
    have hr' : k ∈ Region.ready .any ops listed := by simpa using hr
    have hl' : ∀ j, j < l.length → l[j]? = ops[k + 1 + j]? := fun j hj => by have := hl (j + 1) (by simp; omega); simpa [Nat.add_assoc, Nat.add_comm 1 j] using this
    have hk' : k + 1 + l.length = n := by simp only [List.length_cons] at hk; omega
    have inv' := hset _ k inv hr' hkn
    have hmk1 : ∀ j ∈ mk, (listed.setIfInBounds k true).getD j true = true := fun j hj => by
      rcases Nat.decEq k j with hne | rfl
      · rw [getD_set_ne true hne]; exact hmk j hj
      · have := hmk k hj; rw [(mem_ready.1 hr').1] at this; cases this
    have hmk2 : ∀ j ∈ mk ++ [k], (listed.setIfInBounds k true).getD j true = true := fun j hj => by
      rcases List.mem_append.1 hj with hj | hj
      · exact hmk1 j hj
      · have : j = k := by simpa using hj
        subst this
        rcases Nat.lt_or_ge j listed.size with h | h
        · simp [h]
        · simp
    refine headF_first (L := fun listed mk a => fin listed = true ∧ L mk a) (Inv := Inv) h0 (Region.noSelect_spec hsel) hD (fun _ _ _ _ hp h => ⟨h.1, hL _ _ _ hp h.2⟩) hkn hcl hset (fun l inv hi => hlt l k hkn inv hi) (fun l _ _ h => hdone l h.1) l.length listed mk a inv hf hr' hmk ?_
    have hst : stepF P ops S k o mk a (wpF P ops S L (k + 1) l) := h
    rcases hst with ⟨e0, c, e1, e2⟩ | ⟨F, e0, e1, e2⟩
    · exact .inl ⟨e0, c, e1, ih (k + 1) _ _ _ hl' hk' inv' hmk1 hB' e2⟩
    · exact .inr ⟨F, e0, e1, ih (k + 1) _ _ _ hl' hk' inv' hmk2 hB' e2⟩

/-- all that the makers' facts say -/
def Facts (S : Fcs) (mk : List Nat) (vs : Nat → Value) (w : World) : Prop := ∀ j ∈ mk, ∀ F, S.ks j = some F → F (vs j) w

theorem headF_sound {S : Fcs} (hS : S.Ok) (hD : Dist ops) {n g : Nat} {fin : Array Bool → Bool} {L : List Nat → Act → Prop} {Q' : Exit → Act → World → Prop}
    (hL : ∀ listed mk a, fin listed = true → L mk a → ∀ vs w, S.C w → Facts S mk vs w → wpAny P .any ops Q' g listed (puts ops mk vs a) w) :
    ∀ (f : Nat) (listed : Array Bool) (mk : List Nat) (a : Act), (∀ j ∈ mk, listed.getD j true = true) → headF P .any ops S n (fun listed mk a => fin listed = true ∧ L mk a) f listed mk a →
      ∀ vs w, S.C w → Facts S mk vs w → wpAny P .any ops Q' (f + g) listed (puts ops mk vs a) w := by
  intro f
  induction f with
  | zero => intro listed mk a _ h vs w hC hF; rw [Nat.zero_add]; exact hL _ _ _ h.1 h.2 vs w hC hF
  | succ f ih =>
    intro listed mk a hmk h vs w hC hF
    rw [show f + 1 + g = (f + g) + 1 by omega]
    refine ⟨fun h0 => absurd h0 h.1, fun i hi => ?_⟩
    obtain ⟨hiu, o, ho, _⟩ := mem_ready.1 hi
    have hs := (h.2 i hi).2 o ho
    have hmi : ∀ k ∈ mk, k ≠ i := fun k hk e => by subst e; have := hmk k hk; rw [hiu] at this; cases this
    have hmk1 : ∀ j ∈ mk, (listed.setIfInBounds i true).getD j true = true := fun j hj => by
      rw [getD_set_ne true (Ne.symm (hmi j hj))]; exact hmk j hj
    have hmk2 : ∀ j ∈ mk ++ [i], (listed.setIfInBounds i true).getD j true = true := fun j hj => by
      rcases List.mem_append.1 hj with hj | hj
      · exact hmk1 j hj
      · have : j = i := by simpa using hj
        subst this
        rcases Nat.lt_or_ge j listed.size with h | h
        · simp [h]
        · simp
    have hKn : Known S o mk vs w := fun j hj _ F hF' => hF j hj F hF'
    have key : nOp P ops o (puts ops mk vs a) w (fun v w' => wpAny P .any ops Q' (f + g) (listed.setIfInBounds i true) ((puts ops mk vs a).put o.dst v) w') := by
      rcases hs with ⟨_, c, h1, h2⟩ | ⟨F, h0, h1, h2⟩
      · refine nOp_mono (fun v w' ⟨hv, hg⟩ => ?_) (h1 vs w hC hKn)
        subst hv
        rw [← puts_put vs (fun k hk t ht => hD i k (Ne.symm (hmi k hk)) t (by rw [dstOf_eq ho]; exact ht))]
        exact ih _ _ _ hmk1 h2 vs w' (hS.C _ _ hC hg) (fun j hj F hF' => hS.F j F hF' _ _ _ (hF j hj F hF') hg)
      · refine nOp_mono (fun v w' ⟨hv, hg⟩ => ?_) (h1 vs w hC hKn)
        have := ih _ _ _ hmk2 h2 (fun j => if j = i then v else vs j) w' (hS.C _ _ hC hg) (fun j hj F' hF' => by
          rcases List.mem_append.1 hj with hj | hj
          · show F' (if j = i then v else vs j) w'
            rw [if_neg (hmi j hj)]
            exact hS.F j F' hF' _ _ _ (hF j hj F' hF') hg
          · have : j = i := by simpa using hj
            subst this
            show F' (if j = j then v else vs j) w'
            rw [if_pos rfl]
            rw [h0] at hF'; injection hF' with hF'; subst hF'; exact hv)
        rw [puts_snoc, puts_upd (fun h => hmi i h rfl), dstOf_eq ho] at this
        simpa using this
    unfold nOp at key
    unfold wpOp
    simp only [ho]
    split
    · rename_i hw
      rw [if_pos hw] at key
      exact .inl (sUpon_wp (sUpon_of_n key))
    · rename_i hw
      rw [if_neg hw] at key
      exact key

def distB (ops : Array Oper) : Bool := (List.range ops.size).all fun i => (List.range ops.size).all fun j => i == j || match dstOf ops i with | some d => dstOf ops j != some d | none => true
theorem distB_spec (h : distB ops = true) : Dist ops := by
  intro i j hne d hd hj
  have lt : ∀ k, dstOf ops k = some d → k < ops.size := fun k hk => by
    unfold dstOf at hk
    cases ho : ops[k]? with
    | none => rw [ho] at hk; cases hk
    | some o => exact (Array.getElem?_eq_some_iff.1 ho).1
  simp only [distB, List.all_eq_true, List.mem_range] at h
  have := h i (lt i hd) j (lt j hj)
  simp [hne, hd, hj] at this

def factsB (ops : Array Oper) : Bool := Region.noSelect ops && distB ops && lexG ops (fun l => (Region.ready .any ops l).isEmpty) ops.size 0 (Array.replicate ops.size false)
def factsTailB (ops : Array Oper) (n : Nat) : Bool := Region.noSelect ops && distB ops && decide (n < ops.size) && Region.sinkB .any ops n && Region.chainB .any ops n && lexG ops (fun l => Region.seqB .any ops (ops.size - n) n l) n 0 (Array.replicate ops.size false)

theorem wp_region_facts {id : Nat} {Q : Exit → Act → World → Prop} {a : Act} {w : World} {l : List Oper} (S : Fcs) (hS : S.Ok) (hm : P.follows .mixedOrders = true) (hB : factsB l.toArray = true) (hC : S.C w.drew)
    (h : wpF P l.toArray S (fun mk a' => ∀ vs w', S.C w' → Facts S mk vs w' → Q .normal (puts l.toArray mk vs a') w') 0 l [] a) : (Code.region id l.toArray true).wp P Q a w := by
  simp only [factsB, Bool.and_eq_true] at hB
  obtain ⟨⟨hsel, hD⟩, hlex⟩ := hB
  have hD := distB_spec hD
  have h1 := headF_lex (P := P) (S := S) (n := l.length) (fin := fun li => (Region.ready .any l.toArray li).isEmpty) (Inv := Closed l.toArray) hsel hD
    (L := fun mk a' => ∀ vs w', S.C w' → Facts S mk vs w' → Q .normal (puts l.toArray mk vs a') w')
    (fun m m' a hp h vs w' hC hF => by rw [← puts_perm hD hp]; exact h vs w' hC (fun j hj => hF j (hp.mem_iff.1 hj)))
    (fun _ h => h) (fun _ _ h hj _ => h.set hj) (fun li i _ _ _ j hj => by obtain ⟨_, o, ho, _⟩ := mem_ready.1 hj; have := (Array.getElem?_eq_some_iff.1 ho).1; simpa using this)
    (fun li hf j hj => by simp only [List.isEmpty_iff] at hf; rw [hf] at hj; cases hj) l 0 (Array.replicate l.toArray.size false) [] a (fun j _ => by simp) (by simp)
    ⟨fun j oj _ hl => by rw [getD_replicate_false] at hl; cases hl⟩ (fun j hj => by cases hj) (by simpa using hlex) h
  have h2 := headF_sound (P := P) (g := 0) hS hD (Q' := Q) (fun listed mk a hf hL vs w' hC hF => ⟨by simpa using hf, hL vs w' hC hF⟩) _ _ _ _ (fun j hj => by cases hj) h1 (fun _ => undef) w.drew hC (fun j hj => by cases hj)
  exact wp_region_any hm (by simpa [puts_nil] using h2)

theorem wp_region_facts_tail {id : Nat} {Q : Exit → Act → World → Prop} {a : Act} {w : World} {l : List Oper} (n : Nat) (S : Fcs) (hS : S.Ok) (hm : P.follows .mixedOrders = true) (hB : factsTailB l.toArray n = true) (hC : S.C w.drew)
    (h : wpF P l.toArray S (fun mk a' => ∀ vs w', S.C w' → Facts S mk vs w' → wpList P l.toArray Q (l.drop n) (puts l.toArray mk vs a') w') 0 (l.take n) [] a) : (Code.region id l.toArray true).wp P Q a w := by
  simp only [factsTailB, Bool.and_eq_true, decide_eq_true_eq] at hB
  obtain ⟨⟨⟨⟨⟨hsel, hD⟩, hn⟩, hsk⟩, hch⟩, hlex⟩ := hB
  have hD := distB_spec hD
  have hn' : n < l.length := by simpa using hn
  have hlen : (l.take n).length = n := by simp; omega
  have h1 := headF_lex (P := P) (S := S) (n := n) (fin := fun li => Region.seqB .any l.toArray (l.toArray.size - n) n li) (Inv := HeadInv .any l.toArray n) hsel hD
    (L := fun mk a' => ∀ vs w', S.C w' → Facts S mk vs w' → wpList P l.toArray Q (l.drop n) (puts l.toArray mk vs a') w')
    (fun m m' a hp h vs w' hC hF => by rw [← puts_perm hD hp]; exact h vs w' hC (fun j hj => hF j (hp.mem_iff.1 hj)))
    (fun _ h => ⟨h.closed⟩) (fun _ _ h hj hlt => h.set hj hlt) (fun li i hin inv hi j hj => Nat.lt_of_not_le fun h => tail_waits hsk hch hn inv _ i rfl hin (mem_ready.1 hi).1 j h hj)
    (fun li hf j hj => seqB_ready hf j hj) (l.take n) 0 (Array.replicate l.toArray.size false) [] a (fun j hj => by rw [List.getElem?_take]; simp at hj ⊢; omega) (by rw [hlen]; omega)
    ⟨by simp, fun j oj _ hl => (by rw [getD_replicate_false] at hl; cases hl), fun t _ ht' => by simp at ht' ⊢; simp [ht']⟩ (fun j hj => by cases hj) (by rw [hlen]; exact hlex) h
  have h2 := headF_sound (P := P) (g := l.toArray.size - n) hS hD (Q' := Q) (fun listed mk a hf hL vs w' hC hF => by
    have h3 := wpAny_of_seq (P := P) (md := .any) (ops := l.toArray) (l.drop n) n listed (puts l.toArray mk vs a) w' (fun j => by simp) (by rw [show (l.drop n).length = l.toArray.size - n by simp]; exact hf) (hL vs w' hC hF)
    rwa [show (l.drop n).length = l.toArray.size - n by simp] at h3) _ _ _ _ (fun j hj => by cases hj) h1 (fun _ => undef) w.drew hC (fun j hj => by cases hj)
  rw [hlen, show n + (l.toArray.size - n) = l.toArray.size by omega] at h2
  exact wp_region_any hm h2

/-! The steps, as walks of one operation. -/
def Leaves (d : Tmp) (ds : List Deferred) (R : Value → World → Prop) (e : Exit) (a' : Act) (w' : World) : Prop := e = .normal ∧ a'.defers = ds ∧ R (a'.eval (.tmp d)) w'

theorem put_size (a : Act) (d : Option Tmp) (v : Value) : (a.put d v).tmps.size = a.tmps.size := by cases d <;> simp [Act.put]
theorem put_defers_eq (a : Act) (d : Option Tmp) (v : Value) : (a.put d v).defers = a.defers := by cases d <;> rfl
theorem puts_size (mk : List Nat) (vs : Nat → Value) : ∀ a : Act, (puts ops mk vs a).tmps.size = a.tmps.size := by
  induction mk with
  | nil => intro a; rfl
  | cons i mk ih => intro a; rw [puts_cons, ih, put_size]
theorem puts_defers (mk : List Nat) (vs : Nat → Value) : ∀ a : Act, (puts ops mk vs a).defers = a.defers := by
  induction mk with
  | nil => intro a; rfl
  | cons i mk ih => intro a; rw [puts_cons, ih, put_defers_eq]

theorem nOp_of_list {o : Oper} {a : Act} {w : World} {R : Value → World → Prop} {d : Tmp} (hd : o.dst = some d) (hs : d < a.tmps.size) (h : wpList P ops (Leaves d a.defers R) [o] a w) : nOp P ops o a w R := by
  unfold nOp
  unfold wpList at h
  have hK : ∀ u w', wpList P ops (Leaves d a.defers R) [] (a.put o.dst u) w' → R u w' := fun u w' h => by
    obtain ⟨_, _, hr⟩ := h
    rw [hd] at hr
    have : (a.put (some d) u).eval (.tmp d) = u := by simp [Act.put, Act.eval, hs]
    rwa [this] at hr
  split
  · rename_i hw
    simp only [hw, if_true] at h
    rcases h with h | ⟨_, a', w', h', _⟩
    · unfold Oper.wp at h
      generalize (execOp a.eval o).run P w = r at *
      cases r with
      | ok n w' =>
        cases n <;> simp only [Oper.upon] at h <;> simp only [nUpon]
        case value u => exact hK _ _ h
        case skip => exact hK _ _ h
        case defer d' =>
          obtain ⟨_, h2, _⟩ := h
          have := congrArg List.length h2
          rw [put_defers_eq] at this
          simp at this
        case enter f args => exact Calls.mono h (fun e w'' he => by
          cases e with
          | returned v => exact ⟨v, rfl, hK _ _ he⟩
          | panicked c => exact absurd he.1 (by simp)
          | outgrown => obtain ⟨a', w2, h2⟩ := he; exact absurd h2.1 (by simp))
        case row r args => exact Rows.mono h (fun v w' he => hK _ _ he)
      | halt x w' =>
        cases x <;> simp only [Oper.upon] at h
        exact absurd h.1 (by simp)
    · cases h'
  · rename_i hw
    simp only [hw] at h
    exact hK _ _ h

section
variable {S : Fcs} {L : List Nat → Act → Prop} {k : Nat} {o : Oper} {rest : List Oper} {mk : List Nat} {a : Act}
/-- a value that is the same in all worlds of the class -/
theorem wpF.const (h0 : S.ks k = none) (c : Value) (d : Tmp) (hd : o.dst = some d) (hs : d < a.tmps.size)
    (h : ∀ vs w, S.C w → Known S o mk vs w → wpList P ops (Leaves d a.defers (fun v w' => v = c ∧ S.G w w')) [o] (puts ops mk vs a) w)
    (hK : wpF P ops S L (k + 1) rest mk (a.put o.dst c)) : wpF P ops S L k (o :: rest) mk a :=
  .inl ⟨h0, c, fun vs w hC hk => nOp_of_list hd (by rw [puts_size]; exact hs) (by rw [puts_defers]; exact h vs w hC hk), hK⟩
/-- a maker -/
theorem wpF.make (mk' : List Nat) (hmk : mk ++ [k] = mk') (F : Value → World → Prop) (h0 : S.ks k = some F) (d : Tmp) (hd : o.dst = some d) (hs : d < a.tmps.size)
    (h : ∀ vs w, S.C w → Known S o mk vs w → wpList P ops (Leaves d a.defers (fun v w' => F v w' ∧ S.G w w')) [o] (puts ops mk vs a) w)
    (hK : wpF P ops S L (k + 1) rest mk' a) : wpF P ops S L k (o :: rest) mk a :=
  .inr ⟨F, h0, fun vs w hC hk => nOp_of_list hd (by rw [puts_size]; exact hs) (by rw [puts_defers]; exact h vs w hC hk), hmk ▸ hK⟩
/-- .. as long as there are no makers -/
theorem wpF.const0 (h0 : S.ks k = none) (c : Value) (d : Tmp) (hd : o.dst = some d) (hs : d < a.tmps.size)
    (h : ∀ w, S.C w → wpList P ops (Leaves d a.defers (fun v w' => v = c ∧ S.G w w')) [o] a w)
    (hK : wpF P ops S L (k + 1) rest [] (a.put o.dst c)) : wpF P ops S L k (o :: rest) [] a :=
  wpF.const h0 c d hd hs (fun _ w hC _ => h w hC) hK
theorem wpF.make0 (F : Value → World → Prop) (h0 : S.ks k = some F) (d : Tmp) (hd : o.dst = some d) (hs : d < a.tmps.size)
    (h : ∀ w, S.C w → wpList P ops (Leaves d a.defers (fun v w' => F v w' ∧ S.G w w')) [o] a w)
    (hK : wpF P ops S L (k + 1) rest [k] a) : wpF P ops S L k (o :: rest) [] a :=
  wpF.make [k] rfl F h0 d hd hs (fun _ w hC _ => h w hC) hK
theorem wpF.move0 (h0 : S.ks k = none) (x : Operand) (ho : o.op = .move x ∨ o.op = .assign x) (hg : o.guard = none) (hG : ∀ w, S.G w w)
    (hK : wpF P ops S L (k + 1) rest [] (a.put o.dst (a.eval x))) : wpF P ops S L k (o :: rest) [] a := by
  refine .inl ⟨h0, _, fun vs w hC hk => ?_, hK⟩
  unfold nOp
  rw [if_pos (by unfold Region.wanted; rw [hg])]
  rcases ho with ho | ho
  · unfold execOp; simp only [ho]; exact ⟨rfl, hG w⟩
  · unfold execOp; simp only [ho]; exact ⟨rfl, hG w⟩
theorem puts_eval {x : Operand} (vs : Nat → Value) : ∀ {mk : List Nat} {a : Act}, (∀ j ∈ mk, ∀ d, dstOf ops j = some d → x ≠ .tmp d) → (puts ops mk vs a).eval x = a.eval x
  | [], _, _ => rfl
  | i :: mk, a, h => by rw [puts_cons, puts_eval vs (fun j hj => h j (by simp [hj]))]; exact Act.eval_put (h i (by simp))
theorem wpF.move (h0 : S.ks k = none) (x : Operand) (ho : o.op = .move x ∨ o.op = .assign x) (hg : o.guard = none) (hx : ∀ j ∈ mk, ∀ d, dstOf ops j = some d → x ≠ .tmp d) (hG : ∀ w, S.G w w)
    (hK : wpF P ops S L (k + 1) rest mk (a.put o.dst (a.eval x))) : wpF P ops S L k (o :: rest) mk a := by
  refine .inl ⟨h0, _, fun vs w hC hk => ?_, hK⟩
  unfold nOp
  rw [if_pos (by unfold Region.wanted; rw [hg])]
  rcases ho with ho | ho
  · unfold execOp; simp only [ho]; rw [puts_eval vs hx]; exact ⟨rfl, hG w⟩
  · unfold execOp; simp only [ho]; rw [puts_eval vs hx]; exact ⟨rfl, hG w⟩
/-- an assignment of a maker's value -/
theorem wpF.copy (mk' : List Nat) (hmk : mk ++ [k] = mk') (F : Value → World → Prop) (h0 : S.ks k = some F) (t : Tmp) (ho : o.op = .move (.tmp t) ∨ o.op = .assign (.tmp t)) (hg : o.guard = none) (j : Nat) (hj : j ∈ mk) (hjt : dstOf ops j = some t) (hjF : S.ks j = some F) (hw : waits o j = true) (hs : t < a.tmps.size) (hD : distB ops = true) (hG : ∀ w, S.G w w)
    (hK : wpF P ops S L (k + 1) rest mk' a) : wpF P ops S L k (o :: rest) mk a := by
  subst hmk
  refine .inr ⟨F, h0, fun vs w hC hk => ?_, hK⟩
  have e : (puts ops mk vs a).eval (.tmp t) = vs j := by
    have hp : mk.Perm (mk.erase j ++ [j]) := (List.perm_cons_erase hj).trans (List.perm_append_comm (l₁ := [j]) (l₂ := mk.erase j))
    rw [puts_perm (distB_spec hD) hp, puts_snoc, hjt]
    simp [Act.put, Act.eval, puts_size, hs]
  have hf := hk j hj hw F hjF
  unfold nOp
  rw [if_pos (by unfold Region.wanted; rw [hg])]
  rcases ho with ho | ho
  · unfold execOp; simp only [ho]; rw [e]; exact ⟨hf, hG w⟩
  · unfold execOp; simp only [ho]; rw [e]; exact ⟨hf, hG w⟩
end
end

/-- a slice that reads as the list l -/
def IsSl {α : Type} (cs : α → List Value) (s : Nat) (l : List α) (v : Value) (w : World) : Prop := ∃ A c, v = .slice A l.length c ∧ Sl cs s w w.heap.size A l.length c l
theorem IsSl.grow {α : Type} {cs : α → List Value} {s : Nat} {l : List α} {v : Value} {w w' : World} (h : IsSl cs s l v w) (hb : Below w.heap.size w w') : IsSl cs s l v w' := by
  obtain ⟨A, c, h1, h2⟩ := h
  exact ⟨A, c, h1, (h2.below hb (Nat.le_refl _)).more hb.size⟩
theorem IsSl.lit {α : Type} {cs : α → List Value} {s : Nat} (w : World) (ty : TypeId) (xs : List α) (hs : ∀ x ∈ xs, (cs x).length = s) (hm : xs.length ≤ 9223372036854775807) : IsSl cs s xs (.slice (some ⟨w.heap.size, 0, none⟩) xs.length xs.length) (w.alloc (.cells (xs.flatMap cs).toArray ty)) :=
  ⟨_, _, rfl, by have := Sl.lit (cs := cs) (s := s) w ty xs hs hm; simpa using this⟩

/-- the class of worlds that have grown since w; a step leaves all that is there -/
def grown (w : World) (ks : List (Option (Value → World → Prop))) : Fcs := ⟨fun w' => Below w.heap.size w w', fun a b => Below a.heap.size a b, fun i => ks.getD i none⟩
theorem grown_ok {w : World} {ks : List (Option (Value → World → Prop))} (h : ∀ F, some F ∈ ks → ∀ v w w', F v w → Below w.heap.size w w' → F v w') : (grown w ks).Ok := by
  refine ⟨fun _ _ hC hG => hC.trans (hG.mono hC.size), fun i F hF => ?_⟩
  refine h F ?_
  have hF' : ks.getD i none = some F := hF
  rw [List.getD_eq_getElem?_getD] at hF'
  cases hk : ks[i]? with
  | none => rw [hk] at hF'; simp at hF'
  | some x =>
    rw [hk] at hF'
    have : x = some F := by simpa using hF'
    subst this
    exact List.mem_of_getElem? hk
end Go.Proofs.Ytcljmnbjejcdaaa
