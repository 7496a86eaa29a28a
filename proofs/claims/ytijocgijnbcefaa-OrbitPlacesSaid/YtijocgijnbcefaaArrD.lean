/-
  orbit.Arrival's search, plain: nodes are done in the order of their ticks.
-/
import Derived.Test.YtijocgijnbcefaaArrP
namespace Go.Proofs.Ytijocgijnbcefaa

structure DS where
  tk : Nat → Int
  fr : Nat → Int
  dn : Nat → Bool

def pickN (s : DS) : Nat → Int
  | 0 => -1
  | k + 1 => if s.tk k ≠ -1 ∧ s.dn k = false ∧ (pickN s k = -1 ∨ s.tk k < s.tk (pickN s k).toNat) then (k : Int) else pickN s k

theorem pickN_spec (s : DS) (k : Nat) : (pickN s k = -1 ∧ ∀ n, n < k → s.tk n = -1 ∨ s.dn n = true) ∨
    (∃ m : Nat, pickN s k = m ∧ m < k ∧ s.tk m ≠ -1 ∧ s.dn m = false ∧ ∀ n, n < k → s.tk n ≠ -1 → s.dn n = false → s.tk m ≤ s.tk n) := by
  induction k with
  | zero => exact .inl ⟨rfl, fun n h => absurd h (by omega)⟩
  | succ k ih =>
    rw [pickN]
    rcases ih with ⟨h1, h2⟩ | ⟨m, h1, h2, h3, h4, h5⟩
    · by_cases hc : s.tk k ≠ -1 ∧ s.dn k = false
      · rw [if_pos ⟨hc.1, hc.2, .inl h1⟩]
        refine .inr ⟨k, rfl, by omega, hc.1, hc.2, fun n hn ha hd => ?_⟩
        rcases Nat.lt_or_eq_of_le (Nat.le_of_lt_succ hn) with h | rfl
        · rcases h2 n h with h | h
          · exact absurd h ha
          · rw [h] at hd; cases hd
        · exact Int.le_refl _
      · rw [if_neg (fun h => hc ⟨h.1, h.2.1⟩)]
        refine .inl ⟨h1, fun n hn => ?_⟩
        rcases Nat.lt_or_eq_of_le (Nat.le_of_lt_succ hn) with h | rfl
        · exact h2 n h
        · by_cases ha : s.tk n = -1
          · exact .inl ha
          · refine .inr ?_
            cases hd : s.dn n with
            | true => rfl
            | false => exact absurd ⟨ha, hd⟩ hc
    · by_cases hc : s.tk k ≠ -1 ∧ s.dn k = false ∧ (pickN s k = -1 ∨ s.tk k < s.tk (pickN s k).toNat)
      · rw [if_pos hc]
        refine .inr ⟨k, rfl, by omega, hc.1, hc.2.1, fun n hn ha hd => ?_⟩
        have hlt : s.tk k < s.tk m := by
          rcases hc.2.2 with h | h
          · rw [h1] at h; omega
          · rw [h1] at h; simpa using h
        rcases Nat.lt_or_eq_of_le (Nat.le_of_lt_succ hn) with h | rfl
        · have := h5 n h ha hd; omega
        · exact Int.le_refl _
      · rw [if_neg hc]
        refine .inr ⟨m, h1, by omega, h3, h4, fun n hn ha hd => ?_⟩
        rcases Nat.lt_or_eq_of_le (Nat.le_of_lt_succ hn) with h | rfl
        · exact h5 n h ha hd
        · have : ¬ s.tk n < s.tk m := fun h => hc ⟨ha, hd, .inr (by rw [h1]; simpa using h)⟩
          omega

def hopEnd (s : DS) (size : Int) (now : Nat) (t : Win) : Int := max (s.tk now) t.lo + ceil size t.rate
def relaxD (size : Int) (now : Nat) (s : DS) (t : Win) : DS :=
  if (t.other (now : Int)).2 = false then s
  else if t.hi < hopEnd s size now t ∨ s.dn (t.other (now : Int)).1.toNat = true then s
  else if s.tk (t.other (now : Int)).1.toNat = -1 ∨ hopEnd s size now t < s.tk (t.other (now : Int)).1.toNat ∨ (hopEnd s size now t = s.tk (t.other (now : Int)).1.toNat ∧ (now : Int) < s.fr (t.other (now : Int)).1.toNat) then
    { tk := upd s.tk (t.other (now : Int)).1.toNat (hopEnd s size now t), fr := upd s.fr (t.other (now : Int)).1.toNat (now : Int), dn := s.dn }
  else s
def markD (s : DS) (now : Nat) : DS := { s with dn := upd s.dn now true }
def roundD (ts : List Win) (size : Int) (s : DS) (now : Nat) : DS := ts.foldl (relaxD size now) (markD s now)
def startD (c : Nat) (k : Int) : DS := { tk := upd (fun _ => -1) c k, fr := fun _ => -1, dn := fun _ => false }

/-- ok u t: the hops of u over t have been taken account of -/
structure DInv (ts : List Win) (c : Nat) (k size : Int) (ok : Nat → Win → Prop) (s : DS) : Prop where
  start : s.tk c = k
  doneC : s.dn c = true
  low : ∀ n, s.tk n = -1 ∨ k ≤ s.tk n
  out : ∀ n, 21 ≤ n → s.tk n = -1
  pos : ∀ u, s.dn u = true → 0 ≤ s.tk u
  ord : ∀ u v, s.dn u = true → s.dn v = false → 0 ≤ s.tk v → s.tk u ≤ s.tk v
  clo : ∀ u v t x, s.dn u = true → t ∈ ts → ok u t → Hop t size u v (s.tk u) x → 0 ≤ s.tk v ∧ s.tk v ≤ x
  sup : ∀ n, n ≠ c → 0 ≤ s.tk n → ∃ m : Nat, s.fr n = m ∧ s.dn m = true ∧ (∃ t, t ∈ ts ∧ Hop t size m n (s.tk m) (s.tk n)) ∧ ∀ m' t', s.dn m' = true → t' ∈ ts → ok m' t' → Hop t' size m' n (s.tk m') (s.tk n) → m ≤ m'

theorem other_nat {t : Win} {u : Nat} (ht : t.Formed) (h : (t.other (u : Int)).2 ≠ false) : t.other (u : Int) = (((t.other (u : Int)).1.toNat : Int), true) := by
  unfold Win.Formed at ht
  unfold Win.other at h ⊢
  split
  · simp; omega
  · rename_i h1
    rw [if_neg h1] at h
    split
    · simp; omega
    · rename_i h2
      rw [if_neg h2] at h
      split
      · simp; omega
      · rename_i h3
        rw [if_neg h3] at h
        simp at h

theorem DInv.step {ts : List Win} {c : Nat} {k size : Int} {l : List Win} {s : DS} {now : Nat} {t0 : Win} (hF : ∀ t ∈ ts, t.Formed) (hs : 1 ≤ size) (hk : 0 ≤ k) (ht0 : t0 ∈ ts)
    (h : DInv ts c k size (fun u t => u ≠ now ∨ t ∈ l) s) (hd : s.dn now = true) (hmx : ∀ u, s.dn u = true → s.tk u ≤ s.tk now) :
    DInv ts c k size (fun u t => u ≠ now ∨ t ∈ l ++ [t0]) (relaxD size now s t0) ∧ (relaxD size now s t0).dn = s.dn ∧ ∀ u, s.dn u = true → (relaxD size now s t0).tk u = s.tk u := by
  have hft := hF t0 ht0
  -- nothing turns, and no hop of now over t0 has to be taken account of any more
  have still : (∀ v x, Hop t0 size now v (s.tk now) x → (0 ≤ s.tk v ∧ s.tk v ≤ x) ∧ (∀ m : Nat, s.fr v = m → x = s.tk v → v ≠ c → m ≤ now)) → DInv ts c k size (fun u t => u ≠ now ∨ t ∈ l ++ [t0]) s := by
    intro hh
    refine { h with clo := ?_, sup := ?_ }
    · intro u v t x hu ht hok hop
      rcases hok with hok | hok
      · exact h.clo u v t x hu ht (.inl hok) hop
      · rcases List.mem_append.1 hok with hl | hl
        · exact h.clo u v t x hu ht (.inr hl) hop
        · obtain rfl : t = t0 := by simpa using hl
          by_cases hun : u = now
          · subst hun; exact (hh v x hop).1
          · exact h.clo u v t x hu ht (.inl hun) hop
    · intro n hn hp
      obtain ⟨m, e1, e2, e3, e4⟩ := h.sup n hn hp
      refine ⟨m, e1, e2, e3, fun m' t' hm' ht' hok hop => ?_⟩
      rcases hok with hok | hok
      · exact e4 m' t' hm' ht' (.inl hok) hop
      · rcases List.mem_append.1 hok with hl | hl
        · exact e4 m' t' hm' ht' (.inr hl) hop
        · obtain rfl : t' = t0 := by simpa using hl
          by_cases hun : m' = now
          · subst hun; exact (hh n _ hop).2 m e1 rfl hn
          · exact e4 m' t' hm' ht' (.inl hun) hop
  unfold relaxD
  by_cases c1 : (t0.other (now : Int)).2 = false
  · rw [if_pos c1]
    exact ⟨still fun v x hop => by rw [hop.1] at c1; simp at c1, rfl, fun _ _ => rfl⟩
  · rw [if_neg c1]
    have ho := other_nat hft c1
    obtain ⟨v, hv⟩ : ∃ v, (t0.other (now : Int)).1.toNat = v := ⟨_, rfl⟩
    obtain ⟨x, hx⟩ : ∃ x, hopEnd s size now t0 = x := ⟨_, rfl⟩
    rw [hv] at ho ⊢
    rw [hx]
    obtain ⟨hr, hnow, hv21, hne⟩ := other_link hft ho
    have hcp := ceil_pos hs hr
    have hgt : s.tk now < x := by rw [← hx]; unfold hopEnd; omega
    have hn0 := h.pos now hd
    have only : ∀ v' y, Hop t0 size now v' (s.tk now) y → v' = v ∧ y = x := by
      rintro v' y ⟨a1, a2, a3⟩
      rw [ho] at a1
      refine ⟨by simp at a1; omega, by rw [a2, ← hx]; rfl⟩
    by_cases c2 : t0.hi < x ∨ s.dn v = true
    · rw [if_pos c2]
      refine ⟨still fun v' y hop => ?_, rfl, fun _ _ => rfl⟩
      obtain ⟨rfl, rfl⟩ := only v' y hop
      rcases c2 with c2 | c2
      · exact absurd hop.2.2 (by omega)
      · have b1 := h.pos v' c2
        have b2 := hmx v' c2
        exact ⟨⟨b1, by omega⟩, fun m _ e _ => by omega⟩
    · rw [if_neg c2]
      have hhi : x ≤ t0.hi := by
        rcases Int.lt_or_le t0.hi x with h | h
        · exact absurd (.inl h) c2
        · exact h
      have hnd : s.dn v = false := by
        cases hdv : s.dn v with
        | true => exact absurd (.inr hdv) c2
        | false => rfl
      have hvc : v ≠ c := by rintro rfl; rw [h.doneC] at hnd; cases hnd
      have hop0 : Hop t0 size now v (s.tk now) x := ⟨ho, hx.symm, hhi⟩
      by_cases c3 : s.tk v = -1 ∨ x < s.tk v ∨ (x = s.tk v ∧ (now : Int) < s.fr v)
      · rw [if_pos c3]
        refine ⟨?_, rfl, fun u hu => upd_ne _ _ (by rintro rfl; rw [hnd] at hu; cases hu)⟩
        have hdne : ∀ u, s.dn u = true → upd s.tk v x u = s.tk u := fun u hu => upd_ne _ _ (by rintro rfl; rw [hnd] at hu; cases hu)
        refine ⟨(hdne c h.doneC).trans h.start, h.doneC, ?_, ?_, ?_, ?_, ?_, ?_⟩
        · intro n
          by_cases hnv : n = v
          · subst hnv
            refine .inr ?_
            show k ≤ upd s.tk n x n
            rw [upd_same]
            have := h.low now
            omega
          · show upd s.tk v x n = -1 ∨ k ≤ upd s.tk v x n
            rw [upd_ne _ _ hnv]; exact h.low n
        · intro n hn
          show upd s.tk v x n = -1
          rw [upd_ne _ _ (by omega)]; exact h.out n hn
        · intro u hu
          show 0 ≤ upd s.tk v x u
          rw [hdne u hu]; exact h.pos u hu
        · intro u n hu hn hp
          show upd s.tk v x u ≤ upd s.tk v x n
          rw [hdne u hu]
          by_cases hnv : n = v
          · subst hnv; rw [upd_same]; have := hmx u hu; omega
          · change 0 ≤ upd s.tk v x n at hp
            rw [upd_ne _ _ hnv] at hp ⊢; exact h.ord u n hu hn hp
        · intro u n t y hu ht hok hop
          change Hop t size u n (upd s.tk v x u) y at hop
          rw [hdne u hu] at hop
          show 0 ≤ upd s.tk v x n ∧ upd s.tk v x n ≤ y
          have hcase : (u = now ∧ t = t0) ∨ (u ≠ now ∨ t ∈ l) := by
            rcases hok with hok | hok
            · exact .inr (.inl hok)
            · rcases List.mem_append.1 hok with hl | hl
              · exact .inr (.inr hl)
              · by_cases hun : u = now
                · exact .inl ⟨hun, by simpa using hl⟩
                · exact .inr (.inl hun)
          rcases hcase with ⟨rfl, rfl⟩ | hok
          · obtain ⟨rfl, rfl⟩ := only n y hop
            rw [upd_same]; omega
          · have b := h.clo u n t y hu ht hok hop
            by_cases hnv : n = v
            · subst hnv; rw [upd_same]; omega
            · rw [upd_ne _ _ hnv]; exact b
        · intro n hnc hp
          change 0 ≤ upd s.tk v x n at hp
          by_cases hnv : n = v
          · subst hnv
            refine ⟨now, upd_same _ _ _, hd, ⟨t0, ht0, ?_⟩, ?_⟩
            · show Hop t0 size now n (upd s.tk n x now) (upd s.tk n x n)
              rw [hdne now hd, upd_same]; exact hop0
            · intro m' t' hm' ht' hok hop
              change Hop t' size m' n (upd s.tk n x m') (upd s.tk n x n) at hop
              rw [hdne m' hm', upd_same] at hop
              by_cases hmn : m' = now
              · omega
              · have b := h.clo m' n t' x hm' ht' (.inl hmn) hop
                rcases c3 with c3 | c3 | ⟨c3, c4⟩
                · omega
                · omega
                · obtain ⟨m, e1, _, _, e4⟩ := h.sup n hnc b.1
                  have := e4 m' t' hm' ht' (.inl hmn) (by rw [← c3]; exact hop)
                  omega
          · rw [upd_ne _ _ hnv] at hp
            obtain ⟨m, e1, e2, ⟨t, e3, e3'⟩, e4⟩ := h.sup n hnc hp
            refine ⟨m, (upd_ne _ _ hnv).trans e1, e2, ⟨t, e3, ?_⟩, ?_⟩
            · show Hop t size m n (upd s.tk v x m) (upd s.tk v x n)
              rw [hdne m e2, upd_ne _ _ hnv]; exact e3'
            · intro m' t' hm' ht' hok hop
              change Hop t' size m' n (upd s.tk v x m') (upd s.tk v x n) at hop
              rw [hdne m' hm', upd_ne _ _ hnv] at hop
              rcases hok with hok | hok
              · exact e4 m' t' hm' ht' (.inl hok) hop
              · rcases List.mem_append.1 hok with hl | hl
                · exact e4 m' t' hm' ht' (.inr hl) hop
                · obtain rfl : t' = t0 := by simpa using hl
                  by_cases hun : m' = now
                  · subst hun; exact absurd (only n _ hop).1 hnv
                  · exact e4 m' t' hm' ht' (.inl hun) hop
      · rw [if_neg c3]
        refine ⟨still fun v' y hop => ?_, rfl, fun _ _ => rfl⟩
        obtain ⟨rfl, rfl⟩ := only v' y hop
        have hl := h.low v'
        refine ⟨by omega, fun m hm e _ => ?_⟩
        have : ¬ (now : Int) < s.fr v' := fun hh => c3 (.inr (.inr ⟨e, hh⟩))
        omega

/-- what holds between two rounds -/
abbrev DAll (ts : List Win) (c : Nat) (k size : Int) (s : DS) : Prop := DInv ts c k size (fun _ _ => True) s

theorem DInv.upto_ {ts : List Win} {c : Nat} {k size : Int} {s : DS} {now : Nat} (hF : ∀ t ∈ ts, t.Formed) (hs : 1 ≤ size) (hk : 0 ≤ k)
    (h : DInv ts c k size (fun u _ => u ≠ now) s) (hd : s.dn now = true) (hmx : ∀ u, s.dn u = true → s.tk u ≤ s.tk now) (l : List Win) (hl : ∀ t ∈ l, t ∈ ts) :
    DInv ts c k size (fun u t => u ≠ now ∨ t ∈ l) (l.foldl (relaxD size now) s) ∧ (l.foldl (relaxD size now) s).dn = s.dn ∧ ∀ u, s.dn u = true → (l.foldl (relaxD size now) s).tk u = s.tk u := by
  rw [← List.reverse_reverse l] at hl ⊢
  generalize l.reverse = r at *
  induction r with
  | nil => exact ⟨{ h with clo := fun u v t x hu ht hok hop => h.clo u v t x hu ht (by simpa using hok) hop, sup := fun n hn hp => by obtain ⟨m, e1, e2, e3, e4⟩ := h.sup n hn hp; exact ⟨m, e1, e2, e3, fun m' t' hm' ht' hok hop => e4 m' t' hm' ht' (by simpa using hok) hop⟩ }, rfl, fun _ _ => rfl⟩
  | cons t0 r ih =>
    obtain ⟨i1, i2, i3⟩ := ih (fun t ht => hl t (by rw [List.reverse_cons]; exact List.mem_append.2 (.inl ht)))
    rw [List.reverse_cons, List.foldl_append]
    simp only [List.foldl_cons, List.foldl_nil]
    obtain ⟨j1, j2, j3⟩ := i1.step hF hs hk (hl t0 (by simp)) (by rw [i2]; exact hd) (fun u hu => by rw [i2] at hu; rw [i3 u hu, i3 now hd]; exact hmx u hu)
    exact ⟨j1, j2.trans i2, fun u hu => (j3 u (by rw [i2]; exact hu)).trans (i3 u hu)⟩

/-- after the windows l of the round of now -/
theorem DInv.mark {ts : List Win} {c : Nat} {k size : Int} {s : DS} {now : Nat} (h : DAll ts c k size s) (hk : 0 ≤ k) (h1 : s.tk now ≠ -1) (h2 : s.dn now = false) (h3 : ∀ n, s.tk n ≠ -1 → s.dn n = false → s.tk now ≤ s.tk n) :
    DInv ts c k size (fun u _ => u ≠ now) (markD s now) ∧ (markD s now).dn now = true ∧ ∀ u, (markD s now).dn u = true → (markD s now).tk u ≤ (markD s now).tk now := by
  have hn0 : 0 ≤ s.tk now := by have := h.low now; omega
  have old : ∀ u, (markD s now).dn u = true → u ≠ now → s.dn u = true := fun u hu hne => by
    change upd s.dn now true u = true at hu
    rwa [upd_ne _ _ hne] at hu
  have oldf : ∀ u, (markD s now).dn u = false → s.dn u = false ∧ u ≠ now := fun u hu => by
    change upd s.dn now true u = false at hu
    by_cases hne : u = now
    · subst hne; rw [upd_same] at hu; cases hu
    · rw [upd_ne _ _ hne] at hu; exact ⟨hu, hne⟩
  refine ⟨⟨h.start, ?_, h.low, h.out, ?_, ?_, ?_, ?_⟩, upd_same _ _ _, ?_⟩
  · show upd s.dn now true c = true
    by_cases hc : c = now
    · subst hc; rw [upd_same]
    · rw [upd_ne _ _ hc]; exact h.doneC
  · intro u hu
    by_cases hne : u = now
    · subst hne; exact hn0
    · exact h.pos u (old u hu hne)
  · intro u v hu hv hp
    have hv2 := (oldf v hv).1
    by_cases hne : u = now
    · subst hne
      exact h3 v (by intro e; change 0 ≤ s.tk v at hp; omega) hv2
    · exact h.ord u v (old u hu hne) hv2 hp
  · intro u v t x hu ht hok hop
    exact h.clo u v t x (old u hu hok) ht trivial hop
  · intro n hn hp
    obtain ⟨m, e1, e2, e3, e4⟩ := h.sup n hn hp
    refine ⟨m, e1, ?_, e3, fun m' t' hm' ht' hok hop => e4 m' t' (old m' hm' hok) ht' trivial hop⟩
    show upd s.dn now true m = true
    by_cases hc : m = now
    · subst hc; rw [upd_same]
    · rw [upd_ne _ _ hc]; exact e2
  · intro u hu
    by_cases hne : u = now
    · subst hne; exact Int.le_refl _
    · exact h.ord u now (old u hu hne) h2 hn0

theorem startD_mark (ts : List Win) (c : Nat) (k size : Int) (hc : c < 21) (hk : 0 ≤ k) :
    DInv ts c k size (fun u _ => u ≠ c) (markD (startD c k) c) ∧ (markD (startD c k) c).dn c = true ∧ ∀ u, (markD (startD c k) c).dn u = true → (markD (startD c k) c).tk u ≤ (markD (startD c k) c).tk c := by
  have one : ∀ u, (markD (startD c k) c).dn u = true → u = c := fun u hu => by
    change upd (fun _ => false) c true u = true at hu
    by_cases h : u = c
    · exact h
    · rw [upd_ne _ _ h] at hu; cases hu
  have tk : ∀ u, (markD (startD c k) c).tk u = if u = c then k else -1 := fun u => rfl
  refine ⟨⟨by rw [tk, if_pos rfl], upd_same _ _ _, ?_, ?_, ?_, ?_, ?_, ?_⟩, upd_same _ _ _, ?_⟩
  · intro n; rw [tk]; split <;> omega
  · intro n hn; rw [tk, if_neg (by omega)]
  · intro u hu; rw [one u hu, tk, if_pos rfl]; exact hk
  · intro u v hu hv hp
    rw [tk] at hp
    split at hp
    · rename_i e; subst e
      change upd (fun _ => false) v true v = false at hv
      rw [upd_same] at hv; cases hv
    · omega
  · intro u v t x hu _ hok _; exact absurd (one u hu) hok
  · intro n hn hp; rw [tk, if_neg hn] at hp; omega
  · intro u hu; rw [one u hu]; exact Int.le_refl _

theorem roundD_all {ts : List Win} {c : Nat} {k size : Int} {s : DS} {now : Nat} (hF : ∀ t ∈ ts, t.Formed) (hs : 1 ≤ size) (hk : 0 ≤ k)
    (h : DInv ts c k size (fun u _ => u ≠ now) (markD s now)) (hmx : ∀ u, (markD s now).dn u = true → (markD s now).tk u ≤ (markD s now).tk now) :
    DAll ts c k size (roundD ts size s now) ∧ (roundD ts size s now).dn = upd s.dn now true := by
  obtain ⟨i1, i2, _⟩ := h.upto_ hF hs hk (upd_same _ _ _) hmx ts (fun _ h => h)
  exact ⟨{ i1 with clo := fun u v t x hu ht _ hop => i1.clo u v t x hu ht (.inr ht) hop, sup := fun n hn hp => by obtain ⟨m, e1, e2, e3, e4⟩ := i1.sup n hn hp; exact ⟨m, e1, e2, e3, fun m' t' hm' ht' _ hop => e4 m' t' hm' ht' (.inr ht') hop⟩ }, i2⟩

/-- the search is over -/
theorem DInv.earl {ts : List Win} {c : Nat} {k size : Int} {s : DS} (h : DAll ts c k size s) (hend : ∀ n, n < 21 → s.tk n = -1 ∨ s.dn n = true) : Earl ts c k size s.tk := by
  have hall : ∀ n, 0 ≤ s.tk n → s.dn n = true := fun n hn => by
    rcases Nat.lt_or_ge n 21 with h1 | h1
    · rcases hend n h1 with h2 | h2
      · omega
      · exact h2
    · have := h.out n h1; omega
  refine ⟨h.start, h.low, fun u v t x ht hu hop => h.clo u v t x (hall u hu) ht trivial hop, fun n hn hp => ?_⟩
  obtain ⟨m, _, e2, ⟨t, e3, e3'⟩, _⟩ := h.sup n hn hp
  exact ⟨m, t, e3, h.pos m e2, e3'⟩

theorem DInv.pred {ts : List Win} {c : Nat} {k size : Int} {s : DS} (h : DAll ts c k size s) (hend : ∀ n, n < 21 → s.tk n = -1 ∨ s.dn n = true) (n : Nat) (hn : n ≠ c) (hp : 0 ≤ s.tk n) :
    ∃ m : Nat, s.fr n = m ∧ LeastPred ts size s.tk m n := by
  have hall : ∀ n, 0 ≤ s.tk n → s.dn n = true := fun n hn => by
    rcases Nat.lt_or_ge n 21 with h1 | h1
    · rcases hend n h1 with h2 | h2
      · omega
      · exact h2
    · have := h.out n h1; omega
  obtain ⟨m, e1, e2, e3, e4⟩ := h.sup n hn hp
  exact ⟨m, e1, h.pos m e2, e3, fun m' hm' ⟨t', ht', hop⟩ => e4 m' t' (hall m' hm') ht' trivial hop⟩

/-- how many nodes are not done -/
def undone (dn : Nat → Bool) : Nat := (List.range 21).countP (fun n => !dn n)
theorem undone_lt {dn : Nat → Bool} {m : Nat} (hm : m < 21) (hd : dn m = false) : undone (upd dn m true) < undone dn := by
  unfold undone
  have key : ∀ l : List Nat, l.countP (fun n => !upd dn m true n) + (if m ∈ l then 1 else 0) ≤ l.countP (fun n => !dn n) := by
    intro l
    induction l with
    | nil => simp
    | cons a l ih =>
      by_cases ha : a = m
      · subst ha
        simp only [List.countP_cons, upd_same, hd]
        simp
        split at ih <;> omega
      · simp only [List.countP_cons, upd_ne _ _ ha, List.mem_cons, Ne.symm ha, false_or]
        omega
  have := key (List.range 21)
  rw [if_pos (List.mem_range.2 hm)] at this
  omega

theorem DInv.hi {ts : List Win} {c : Nat} {k size : Int} {ok : Nat → Win → Prop} {s : DS} (h : DInv ts c k size ok s) (hF : ∀ t ∈ ts, t.Formed) (hs : 1 ≤ size) (hk1 : k ≤ 1000000000) (hk0 : 0 ≤ k) (n : Nat) : -1 ≤ s.tk n ∧ s.tk n ≤ 1000000000 := by
  have hl := h.low n
  refine ⟨by omega, ?_⟩
  by_cases hn : n = c
  · subst hn; rw [h.start]; exact hk1
  · by_cases hp : 0 ≤ s.tk n
    · obtain ⟨m, _, _, ⟨t, ht, hop⟩, _⟩ := h.sup n hn hp
      have := (hop.gt (hF t ht) hs).2.2.2
      omega
    · omega
theorem startD_pick {c m : Nat} {k : Int} (h : (startD c k).tk m ≠ -1) : m = c := by
  by_cases hm : m = c
  · exact hm
  · exact absurd (show upd (fun _ => (-1 : Int)) c k m = -1 from upd_ne _ _ hm) h

end Go.Proofs.Ytijocgijnbcefaa
