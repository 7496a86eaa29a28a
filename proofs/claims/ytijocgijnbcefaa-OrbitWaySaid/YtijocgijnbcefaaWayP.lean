/-
  Plain: what the nodes of a way are (for OrbitWay).
-/
import Derived.Test.YtijocgijnbcefaaOrbW
import Derived.Test.YtijocgijnbcefaaArrS
namespace Go.Proofs.Ytijocgijnbcefaa

theorem step_way {ts : List Win} {c : Nat} {k size : Int} {e : Nat → Int} {u v : Nat} (he : Earl ts c k size e) (hF : ∀ t ∈ ts, t.Formed) (h : LeastPred ts size e u v) : stepL u v (e u) size ts = (e v, true) := by
  obtain ⟨t, ht, hop⟩ := h.hop
  rcases stepL_spec (size := size) hF u v (e u) with ⟨_, h2⟩ | ⟨h1, ⟨t', ht', hop'⟩, h3⟩
  · exact absurd hop (h2 t ht _)
  · have a1 := h3 t ht _ hop
    have a2 := he.closed u v t' _ ht' h.pos hop'
    exact Prod.ext (by dsimp only; omega) h1

/-- one step of a way -/
structure WStep (ts : List Win) (z : Int) (l : List Int) (tk : Nat → Int) (p : Nat) (x y : Int) : Prop where
  hx : l[p]? = some x
  hy : l[p + 1]? = some y
  step : stepL x y (tk p) z ts = (tk (p + 1), true)
  new : y ∉ l.take (p + 1)
  pos : 0 ≤ y
  tks : 0 ≤ tk p ∧ tk p ≤ 1000000
  last : 12 ≤ y ↔ p + 1 = l.length - 1

structure WInfo (ts : List Win) (k z : Int) (c st : Nat) (a : Int) (l : List Int) (tk : Nat → Int) : Prop where
  t0 : tk 0 = k
  ta : tk (l.length - 1) = a
  two : 2 ≤ l.length
  max : l.length ≤ 13
  first : l[0]? = some (c : Int)
  last : l[l.length - 1]? = some (12 + (st : Int))
  steps : ∀ p, p + 1 < l.length → ∃ x y, WStep ts z l tk p x y

theorem way_info {ts : List Win} {c st : Nat} {k z a : Int} {l : List Int} (h : ArrSpec ts c k z st a l true) (hF : ∀ t ∈ ts, t.Formed) (hc : c < 12) (hk0 : 0 ≤ k) (hk : k ≤ 1000000) (hz : 1 ≤ z) : ∃ tk, WInfo ts k z c st a l tk := by
  obtain ⟨e, he, h⟩ := h
  rcases h with ⟨_, _, _, h⟩ | ⟨_, rfl, _, lN, hw, rfl⟩
  · cases h
  have ht := hw.track
  have h2 := ht.two (by omega)
  have h13 := ht.len hF hz
  have hlen : (lN.map (fun n : Nat => (n : Int))).length = lN.length := by simp
  have get : ∀ (i n : Nat), lN[i]? = some n → (lN.map (fun n : Nat => (n : Int)))[i]? = some (n : Int) := fun i n hi => by simp [hi]
  have top : ∀ (i u : Nat), lN[i]? = some u → 0 ≤ e u ∧ e u ≤ 1000000 := fun i u hi => by
    cases i with
    | zero =>
      rw [ht.first] at hi
      cases hi
      rw [he.start]; omega
    | succ i =>
      have hlt := (List.getElem?_eq_some_iff.1 hi).1
      have hlp := ht.next i _ u (List.getElem?_eq_getElem (by omega)) hi
      obtain ⟨t, htm, hop⟩ := hlp.hop
      have h3 := hop.gt (hF t htm) hz
      have h4 := hlp.pos
      omega
  have get0 : ∀ i, i < lN.length → lN[i]? = some (lN.getD i 0) := fun i hi => by rw [List.getElem?_eq_getElem hi]; simp [List.getD, hi]
  refine ⟨fun i => e (lN.getD i 0), ?_, ?_, by omega, by omega, ?_, ?_, ?_⟩
  · have h0 := get0 0 (by omega)
    rw [ht.first] at h0
    injection h0 with h0
    show e (lN.getD 0 0) = k
    rw [← h0, he.start]
  · have h0 := get0 (lN.length - 1) (by omega)
    rw [ht.last] at h0
    injection h0 with h0
    show e (lN.getD _ 0) = _
    rw [hlen, ← h0]
  · exact get 0 c ht.first
  · rw [hlen, get _ _ ht.last]
    simp
  · intro p hp
    rw [hlen] at hp
    have hu := get0 p (by omega)
    have hv := get0 (p + 1) hp
    have hlp := ht.next p _ _ hu hv
    refine ⟨_, _, get p _ hu, get (p + 1) _ hv, step_way he hF hlp, ?_, by omega, top p _ hu, ?_⟩
    · intro hm
      rw [← List.map_take] at hm
      obtain ⟨n, hn, hnv⟩ := List.mem_map.1 hm
      have : n = lN.getD (p + 1) 0 := by omega
      subst this
      exact ht.new hF hz (p + 1) _ hv hn
    · rw [hlen]
      constructor
      · intro h12
        rcases Nat.lt_or_ge (p + 2) lN.length with h3 | h3
        · have := ht.craft hF hz (p + 1) _ hv h3
          omega
        · omega
      · intro he'
        have := ht.last
        rw [← he', hv] at this
        injection this with this
        omega

end Go.Proofs.Ytijocgijnbcefaa
