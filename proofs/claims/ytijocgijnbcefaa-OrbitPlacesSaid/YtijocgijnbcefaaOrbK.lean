/-
  orbit.Check.
-/
import Derived.Test.YtijocgijnbcefaaOrbJ
import Derived.Test.YtijocgijnbcefaaMapX
namespace Go.Proofs.Ytijocgijnbcefaa
open Go.ChangeShapes Go.WideShapes Go.ChangeAt Go.RowKit Go.Maps

theorem tlaid : laidOutB Try.prog = true := by kernel_rfl
theorem k3row : (55 : TypeId) < Try.prog.types.size := of_decide_eq_true (by kernel_rfl)
theorem k3cells : Try.prog.cellsOf 55 = 3 := by kernel_rfl
theorem k1cells : Try.prog.cellsOf 3 = 1 := by kernel_rfl
theorem k3type : Try.prog.keyType 55 = true := by kernel_rfl
theorem k3wide : (match Try.prog.underlying 55 with | some (.array _ _) | some (.struct _) => true | _ => false) = true := by kernel_rfl
theorem k3law : Keyed Try.prog 55 := Keyed.of_law (deep_law_laid tlaid (m := 2) (by omega) k3row (by kernel_rfl) k3wide)
theorem k3size : ∃ m, Try.prog.types.size + 1 = m + 2 := by
  obtain ⟨m, hm⟩ := Nat.exists_eq_succ_of_ne_zero (Nat.ne_of_gt (Nat.lt_of_le_of_lt (Nat.zero_le _) k3row))
  exact ⟨m, by rw [hm]⟩

/-- a key's value -/
def kv (k a b : Int) : Value := .agg #[.int .i64 k, .int .i64 a, .int .i64 b]
theorem kv_inj {k a b k' a' b' : Int} (h : kv k a b = kv k' a' b') : k = k' ∧ a = a' ∧ b = b' := by simpa [kv] using h
theorem k3key (k a b : Int) (hk : I64 k) (ha : I64 a) (hb : I64 b) : ∃ l, keyOf Try.prog 55 (kv k a b) = some l := by
  obtain ⟨m, hm⟩ := k3size
  obtain ⟨k1, k2⟩ := hk
  obtain ⟨a1, a2⟩ := ha
  obtain ⟨b1, b2⟩ := hb
  have wk : (Lit.int .i64 k).wf = true := WalkArith.wf_i64 (by omega)
  have wa : (Lit.int .i64 a).wf = true := WalkArith.wf_i64 (by omega)
  have wb : (Lit.int .i64 b).wf = true := WalkArith.wf_i64 (by omega)
  have e0 : (kv k a b).formed Try.prog 55 = true := by unfold kv Value.formed; rw [Try.underlying55]; simp [k3cells]
  have e1 : ∀ n, (Lit.int .i64 n).wf = true → Try.prog.keyLits (m + 1) 3 [.int .i64 n] = some [.int .i64 n] := by
    intro n hn
    unfold Program.keyLits
    simp only [Try.underlying3]
    simp [hn]
  have e2 : Try.prog.keyLits (m + 2) 55 [.int .i64 k, .int .i64 a, .int .i64 b] = some [.int .i64 k, .int .i64 a, .int .i64 b] := by
    unfold Program.keyLits
    simp only [Try.underlying55, k3cells, k1cells]
    simp [List.range_succ, e1 _ wk, e1 _ wa, e1 _ wb]
  refine ⟨.string (keyBytes [.int .i64 k, .int .i64 a, .int .i64 b]), ?_⟩
  unfold keyOf
  rw [Try.underlying55]
  simp only [k3type, e0, hm]
  simp only [kv, Value.cells]
  rw [e2]
  rfl

open Classical in
/-- what the map holds -/
noncomputable def endsF (l : List Win) : Value → Option Value := l.foldl (fun f t y => if y = kv t.kind t.a t.b then some (.int .i64 t.hi) else f y) (fun _ => none)
open Classical in
theorem endsF_snoc (l : List Win) (t : Win) : endsF (l ++ [t]) = fun y => if y = kv t.kind t.a t.b then some (.int .i64 t.hi) else endsF l y := by simp [endsF, List.foldl_append]

/-- the end of the last window of a key -/
def lastHi (l : List Win) (k a b : Int) : Option Int := ((l.filter (·.key k a b)).getLast?).map (·.hi)
theorem lastHi_snoc (l : List Win) (t : Win) (k a b : Int) : lastHi (l ++ [t]) k a b = if t.key k a b = true then some t.hi else lastHi l k a b := by
  unfold lastHi
  rw [List.filter_append]
  by_cases h : t.key k a b = true
  · rw [if_pos h, show [t].filter (·.key k a b) = [t] by simp [h]]; simp
  · rw [if_neg h, show [t].filter (·.key k a b) = [] by simp [h]]; simp
theorem endsF_eq (l : List Win) (k a b : Int) : endsF l (kv k a b) = (lastHi l k a b).map (Value.int .i64) := by
  rw [← List.reverse_reverse l]
  generalize l.reverse = r
  induction r with
  | nil => rfl
  | cons t r ih =>
    rw [List.reverse_cons, endsF_snoc, lastHi_snoc]
    dsimp only
    by_cases h : t.key k a b = true
    · rw [if_pos h, if_pos (by obtain ⟨rfl, rfl, rfl⟩ := (by simpa [Win.key, and_assoc] using h : t.kind = k ∧ t.a = a ∧ t.b = b); rfl)]; rfl
    · rw [if_neg h, if_neg (fun e => h (by obtain ⟨h1, h2, h3⟩ := kv_inj e; simp [Win.key, h1, h2, h3]))]; exact ih

/-- no window begins before the last one of its key ends -/
def Apart (ts : List Win) : Prop := ∀ (i : Nat) (t : Win) (h : Int), ts[i]? = some t → lastHi (ts.take i) t.kind t.a t.b = some h → ¬ t.lo < h

/-- what Check returns -/
noncomputable def checkO (ts : List Win) : Int := by
  classical exact if 200 < ts.length then 2 else if ts.all (·.formed) = false then 5 else if sortedB ts = false then 23 else if Apart ts then 0 else 23

theorem zeroInt (w : World) : (zeroValue 3).run Try.prog w = .ok (.int .i64 0) w := by kernel_rfl

set_option maxRecDepth 100000 in
set_option maxHeartbeats 400000 in
theorem check_any (B : Nat) (A : Option Addr) (n cap : Nat) (ts : List Win) (w : World) (h : Sl csW 6 w B A n cap ts) (hB : B ≤ w.heap.size) :
    Calls Try.prog 13 #[.slice A n cap] w fun e w' => e = .returned (.int .i64 (checkO ts)) ∧ Below w.heap.size w w' := by
  have hn := h.ncap
  have hc := h.cmax
  have hmm := @run_makeMap Try.prog
  have HL := Lib.hid h.len
  by_cases h200 : 200 < n
  · have HR : Hid (checkO ts = 2) := by unfold Hid checkO; rw [if_pos (by rw [HL.out]; exact h200)]
    go_enter Try.func13, Try.ntmps13
    go_wp2
    go_ret
    exact ⟨by rw [HR.out]; rfl, Below.refl _ _⟩
  · cases hall : ts.all (·.formed) with
    | false =>
      have HR : Hid (checkO ts = 5) := by unfold Hid checkO; rw [if_neg (by rw [HL.out]; exact h200), if_pos hall]
      have c := contains_any B A n cap ts w h hB
      rw [hall] at c
      have C := Lib.hid c
      clear c hall
      go_enter Try.func13, Try.ntmps13
      go_wp2_with fail
      refine C.out.mono ?_
      rintro e w1 ⟨rfl, hb1⟩
      go_wp2
      go_ret
      exact ⟨by rw [HR.out]; rfl, hb1⟩
    | true =>
      have c := contains_any B A n cap ts w h hB
      rw [hall] at c
      have C := Lib.hid c
      have hF : ∀ t ∈ ts, t.Formed := fun t ht => by have := List.all_eq_true.1 hall t ht; simpa [Win.formed] using this
      have HA := Lib.hid hall
      clear c hall
      go_enter Try.func13, Try.ntmps13
      go_wp2_with fail
      refine C.out.mono ?_
      clear C
      rintro e w1 ⟨rfl, hb1⟩
      have h1 := h.below hb1 hB
      have hB1 : B ≤ w1.heap.size := Nat.le_trans hB hb1.size
      have c := sorted_any B A n cap ts w1 h1 hB1
      cases hso : sortedB ts with
      | false =>
        have HR : Hid (checkO ts = 23) := by unfold Hid checkO; rw [if_neg (by rw [HL.out]; exact h200), if_neg (by rw [HA.out]; simp), if_pos hso]
        rw [hso] at c
        have C := Lib.hid c
        clear c hso
        go_wp2_with fail
        refine C.out.mono ?_
        rintro e w2 ⟨rfl, hb2⟩
        go_wp2
        go_ret
        exact ⟨by rw [HR.out]; rfl, hb1.trans (hb2.mono hb1.size)⟩
      | true =>
        rw [hso] at c
        have C := Lib.hid c
        have HSo := Lib.hid hso
        clear c hso
        go_wp2_with fail
        refine C.out.mono ?_
        clear C
        rintro e w2 ⟨rfl, hb2⟩
        have hbw2 := hb1.trans (hb2.mono hb1.size)
        have hS := h1.below hb2 hB1
        have hs2 := hbw2.size
        have h0 := (MapIs.new (P := Try.prog) (k := 55) w2).congr (g := endsF []) (fun _ => rfl)
        have HF := Lib.hid hF
        clear h h1 hb1 hb2 hF
        go_wp2
        go_loopw [5, 6, 7, 8, 20] (fun _ _ _ _ i wr => ∃ k : Nat, k ≤ n ∧ i = .int .i64 k ∧ Hid (∀ (i : Nat) (t : Win) (h : Int), i < k → ts[i]? = some t → lastHi (ts.take i) t.kind t.a t.b = some h → ¬ t.lo < h) ∧ MapIs Try.prog 55 wr w2.heap.size (endsF (ts.take k)) ∧ Below w2.heap.size w2 wr) (fun _ _ _ _ i _ => n - (intOf i).toNat)
        case atStart => exact ⟨0, Nat.zero_le _, rfl, fun i t h hi => absurd hi (by omega), h0, (Below.refl _ _).alloc (Nat.le_refl _) _⟩
        case round =>
          obtain ⟨k, hk, rfl, HRl, hM, hbr⟩ := hrel
          by_cases hlt : k < n
          · obtain ⟨b, o, t, rfl, hb, ht, hW⟩ := hS.win hlt
            have HT := Lib.hid (take_snoc ht)
            have HG := Lib.hid ht
            clear ht
            have hft := HF.out t (List.mem_of_getElem? HG.out)
            obtain ⟨l, hkey⟩ := k3key t.kind t.a t.b (by unfold Win.Formed at hft; unfold I64; omega) (by unfold Win.Formed at hft; unfold I64; omega) (by unfold Win.Formed at hft; unfold I64; omega)
            obtain ⟨c0, c1, c2, c3, c4, c5⟩ := hW wr (hbr.mono (by omega))
            have hM3 := (hM.alloc (.cells #[.int .i64 t.kind, .int .i64 t.a, .int .i64 t.b, .int .i64 t.lo, .int .i64 t.hi, .int .i64 t.rate] 31)).alloc (.cells #[.int .i64 t.kind, .int .i64 t.a, .int .i64 t.b] 55)
            have hb3 := (hbr.alloc hbr.size (.cells #[.int .i64 t.kind, .int .i64 t.a, .int .i64 t.b, .int .i64 t.lo, .int .i64 t.hi, .int .i64 t.rate] 31)).alloc (by have := hbr.size; simp; omega) (.cells #[.int .i64 t.kind, .int .i64 t.a, .int .i64 t.b] 55)
            have hrun := hM3.run_lookup_ok k3law Try.underlying54 (zeroInt _) hkey
            rw [endsF_eq] at hrun
            obtain ⟨w4, hupd, hM4, hg4⟩ := hM3.run_update k3law Try.underlying54 (v := .int .i64 t.hi) hkey
            have hM5 := hM4.congr (g := endsF (ts.take (k + 1))) (fun y => by rw [HT.out, endsF_snoc])
            have hb4 := hb3.grown hg4 hb3.size (fun k e => by cases e; exact Nat.le_refl _)
            clear hM3 hM4 hg4 hkey hft h0 hM
            unfold kv at hrun hupd
            cases hl : lastHi (ts.take k) t.kind t.a t.b with
            | none =>
              rw [hl] at hrun
              simp only [Option.map_none, Option.getD_none, Option.isSome_none] at hrun
              have HNl : Hid (∀ (i : Nat) (t : Win) (h : Int), i < k + 1 → ts[i]? = some t → lastHi (ts.take i) t.kind t.a t.b = some h → ¬ t.lo < h) := by
                intro i u h hi hu hh
                rcases Nat.lt_or_eq_of_le (Nat.le_of_lt_succ hi) with hik | rfl
                · exact HRl.out i u h hik hu hh
                · have := Option.some.inj (hu.symm.trans HG.out)
                  subst this
                  rw [hl] at hh; cases hh
              clear hl
              go_wp2
              go_roundw
              case rel => exact ⟨k + 1, by omega, by go_num, HNl, hM5, hb4⟩
              case measure => simp [intOf]; omega
            | some e =>
              rw [hl] at hrun
              simp only [Option.map_some, Option.getD_some, Option.isSome_some] at hrun
              by_cases hlo : t.lo < e
              · have HR : Hid (checkO ts = 23) := by
                  unfold Hid checkO
                  rw [if_neg (by rw [HL.out]; exact h200), if_neg (by rw [HA.out]; simp), if_neg (by rw [HSo.out]; simp), if_neg]
                  intro hap
                  exact hap k t e HG.out hl hlo
                clear hl
                go_wp2
                go_ret
                exact ⟨by rw [HR.out]; rfl, hbw2.trans (hb3.mono hs2)⟩
              · have HNl : Hid (∀ (i : Nat) (t : Win) (h : Int), i < k + 1 → ts[i]? = some t → lastHi (ts.take i) t.kind t.a t.b = some h → ¬ t.lo < h) := by
                  intro i u h hi hu hh
                  rcases Nat.lt_or_eq_of_le (Nat.le_of_lt_succ hi) with hik | rfl
                  · exact HRl.out i u h hik hu hh
                  · have := Option.some.inj (hu.symm.trans HG.out)
                    subst this
                    rw [hl] at hh
                    cases hh
                    exact hlo
                clear hl
                go_wp2
                go_roundw
                case rel => exact ⟨k + 1, by omega, by go_num, HNl, hM5, hb4⟩
                case measure => simp [intOf]; omega
          · obtain rfl : n = k := by omega
            have HR : Hid (checkO ts = 0) := by
              unfold Hid checkO
              rw [if_neg (by rw [HL.out]; exact h200), if_neg (by rw [HA.out]; simp), if_neg (by rw [HSo.out]; simp), if_pos]
              intro i t h hi hh
              have := (List.getElem?_eq_some_iff.1 hi).1
              exact HRl.out i t h (by rw [HL.out] at this; exact this) hi hh
            go_wp2
            go_ret
            exact ⟨by rw [HR.out]; rfl, hbw2.trans (hbr.mono hs2)⟩

end Go.Proofs.Ytijocgijnbcefaa
