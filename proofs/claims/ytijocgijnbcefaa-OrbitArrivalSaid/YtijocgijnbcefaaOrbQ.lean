/-
  The reference's Arrival: the walk.
-/
import Derived.Test.YtijocgijnbcefaaOrbO
namespace Go.Proofs.Ytijocgijnbcefaa
open Go.ChangeShapes Go.WideShapes Go.ChangeAt Go.RowKit

theorem step_pred {ts : List Win} {c : Nat} {k size : Int} {e : Nat → Int} (he : Earl ts c k size e) (hF : ∀ t ∈ ts, t.Formed) (m v : Nat) (h0 : 0 ≤ e m) :
    ((stepL m v (e m) size ts).2 = true ∧ (stepL m v (e m) size ts).1 = e v) ↔ ∃ t, t ∈ ts ∧ Hop t size m v (e m) (e v) := by
  constructor
  · rintro ⟨h1, h2⟩
    rcases stepL_spec (size := size) hF m v (e m) with ⟨h3, _⟩ | ⟨_, ⟨t, ht, hop⟩, _⟩
    · rw [h1] at h3; cases h3
    · exact ⟨t, ht, by rw [← h2]; exact hop⟩
  · rintro ⟨t, ht, hop⟩
    rcases stepL_spec (size := size) hF m v (e m) with ⟨_, h4⟩ | ⟨h3, ⟨t', ht', hop'⟩, h5⟩
    · exact absurd hop (h4 t ht _)
    · have h6 := h5 t ht _ hop
      have h7 := he.closed m v t' _ ht' h0 hop'
      exact ⟨h3, by omega⟩

theorem own_below {w w' : World} {B e size n : Nat} {v : Value} {xs : List Value} (h : w.ownsRow B e size v n xs) (hb : Below w.heap.size w w') : w'.ownsRow B e size v n xs := by
  refine ⟨h.1, ?_⟩
  rcases h.2 with h1 | ⟨g, cap, cur, hv, hbg, hg, rest⟩
  · exact .inl h1
  · exact .inr ⟨g, cap, cur, hv, hbg, (hb.block g ((Array.getElem?_eq_some_iff.1 hg).1)).trans hg, rest⟩

theorem own_sl {w : World} {base g n cap : Nat} {l : List Nat} (h : w.ownsRow base 3 1 (.slice (some ⟨g, 0, none⟩) n cap) n (l.map (fun q : Nat => Value.int .i64 q))) :
    Sl csI 1 w w.heap.size (some ⟨g, 0, none⟩) n cap (l.map (fun q : Nat => (q : Int))) := by
  have hl := h.1
  have hcap : n ≤ cap ∧ cap ≤ 9223372036854775807 := by
    rcases h.2 with ⟨h1, _⟩ | ⟨g', cap', cur, h', _, _, h1, h2, _⟩
    · cases h1
    · simp only [Value.slice.injEq] at h'
      obtain ⟨_, _, rfl⟩ := h'
      exact ⟨h1, h2⟩
  refine ⟨by simp at hl ⊢; omega, hcap.1, hcap.2, fun h0 => ⟨g, 0, rfl, (h.lt g rfl).2, fun i x hx j v hv => ?_⟩⟩
  have hj : j < 1 := by simpa [csI] using (List.getElem?_eq_some_iff.1 hv).1
  obtain rfl : j = 0 := by omega
  simp [csI] at hv
  subst hv
  have hi : i < l.length := by simpa using (List.getElem?_eq_some_iff.1 hx).1
  simp at hl
  rw [show 0 + i * 1 + 0 = i by omega, h.cellAt i (by omega)]
  rw [List.getElem?_map, List.getElem?_eq_getElem hi] at hx ⊢
  simp at hx ⊢
  rw [hx]

set_option maxRecDepth 100000 in
set_option maxHeartbeats 2000000 in
theorem arrival9_any (B : Nat) (A : Option Addr) (n cap : Nat) (ts : List Win) (c st : Nat) (k size : Int) (w : World) (h : Sl csW 6 w B A n cap ts) (hB : B ≤ w.heap.size) (hF : ∀ t ∈ ts, t.Formed)
    (hc : c < 12) (hst : st < 9) (hk0 : 0 ≤ k) (hk1 : k ≤ 1000000000) (hs1 : 1 ≤ size) (hs2 : size ≤ 1000000) :
    Calls Try.prog 25 #[.slice A n cap, .int .i64 c, .int .i64 st, .int .i64 k, .int .i64 size] w (ArrRes ts c k size st w) := by
  have hn := h.ncap
  have hcm := h.cmax
  have hcI : (c : Int) < 12 := by omega
  have hstI : (st : Int) < 9 := by omega
  obtain ⟨i0, hi, hz0, hz1, hz2⟩ := info_parts infoI
  go_enter Try.func25, Try.ntmps25
  go_wp2_with fail
  refine (earliest_any B A n cap ts c k size w h hB hF hc hk0 hk1 hs1 hs2).mono ?_
  rintro e w1 ⟨g, f, rfl, hA, hE, hbd, hg, hbw⟩
  have hg1 := Arr.lt hA
  have cE := hA.at_ (i := 12 + st) (by omega)
  have hh : Sl csW 6 w1 B A n cap ts := h.below hbw hB
  have hX := hbd (12 + st)
  obtain ⟨X, hXe⟩ : ∃ X, f (12 + st) = X := ⟨_, rfl⟩
  rw [hXe] at cE hX
  have HX := Lib.hid hXe
  have HE := Lib.hid hE
  have HBD := Lib.hid hbd
  clear hXe hbd hE
  by_cases hx : X < 0
  · have HR : Hid (ArrRes ts c k size st w (.returned (.tuple #[.int .i64 0, .slice none 0 0, .bool false])) w1) := ⟨0, [], false, none, 0, ⟨f, HE.out, .inl ⟨by rw [HX.out]; omega, rfl, rfl, rfl⟩⟩, rfl, Sl.nil_, hbw⟩
    go_wp2
    go_ret3
    exact HR.out
  · have hown0 := World.ownsRow_lit (e := 3) (size := 1) (base := w1.heap.size) w1 #[.int .i64 (12 + (st : Int))] 1 (Nat.le_refl _) (by decide) rfl
    go_wp2
    go_loopw [14, 15, 16, 17, 18] (fun i sl _ _ _ wr => ∃ (v : Nat) (rest : List Nat) (gw cap : Nat), i = .int .i64 v ∧ sl = .slice (some ⟨gw, 0, none⟩) (rest.length + 1) cap ∧ wr.ownsRow w1.heap.size 3 1 (.slice (some ⟨gw, 0, none⟩) (rest.length + 1) cap) (rest.length + 1) ((v :: rest).map (fun q : Nat => Value.int .i64 q)) ∧ Hid (v < 21 ∧ 0 ≤ f v ∧ (∀ l, Way ts size f c v l → Way ts size f c (12 + st) (l ++ rest)) ∧ (rest.length : Int) + f v ≤ 1000000000) ∧ Below w1.heap.size w1 wr) (fun i _ _ _ _ _ => (f (intOf i).toNat).toNat)
    case atStart => exact ⟨12 + st, [], w1.heap.size, 1, by congr 1, rfl, by simpa using hown0, ⟨by omega, by rw [HX.out]; omega, fun l hl => by simpa using hl, by rw [HX.out]; simp; omega⟩, (Below.refl _ _).alloc (Nat.le_refl _) _⟩
    case round =>
      obtain ⟨v, rest, gw, cap', rfl, rfl, hown, HV, hbv⟩ := hrel
      have hwr := hbv.size
      have hAr := Arr.below hA hbv hg1
      by_cases hvc : v = c
      · subst hvc
        have hW : Way ts size f v (12 + st) (v :: rest) := by simpa using HV.out.2.2.1 [v] .start
        have cE1 := ArrI.at_ hAr (i := 12 + st) (by omega)
        rw [HX.out] at cE1
        have HR : Hid (ArrRes ts v k size st w (.returned (.tuple #[.int .i64 X, .slice (some ⟨gw, 0, none⟩) (rest.length + 1) cap', .bool true])) wr) := by
          refine ⟨X, (v :: rest).map (fun q : Nat => (q : Int)), true, some ⟨gw, 0, none⟩, cap', ⟨f, HE.out, .inr ⟨by rw [HX.out]; omega, HX.out.symm, rfl, v :: rest, hW, rfl⟩⟩, by simp, ?_, hbw.trans (hbv.mono hbw.size)⟩
          simpa using own_sl hown
        clear hW hown hAr
        go_wp2
        go_ret3
        exact HR.out
      · have hvcI : ((v : Int) != (c : Int)) = true := by simp; omega
        have hpred : ∃ m t, t ∈ ts ∧ 0 ≤ f m ∧ Hop t size m v (f m) (f v) := HE.out.held v hvc HV.out.2.1
        have HP := Lib.hid hpred
        clear hpred cE
        have hv21 : (v : Int) < 21 := by have := HV.out.1; omega
        have cv := ArrI.at_ hAr (i := v) HV.out.1
        obtain ⟨y, hy⟩ : ∃ y, f v = y := ⟨_, rfl⟩
        rw [hy] at cv
        have HY := Lib.hid hy
        clear hy
        go_wp2
        obtain ⟨wo, rfl⟩ : ∃ wo : World, wo = wr := ⟨_, rfl⟩
        go_loopw [14, 16, 17, 18] (fun a i _ _ wr => ∃ q : Nat, q ≤ 12 ∧ a = .int .i64 v ∧ i = .int .i64 q ∧ Hid (∀ m', m' < q → 0 ≤ f m' → ¬ ∃ t, t ∈ ts ∧ Hop t size m' v (f m') (f v)) ∧ Below wo.heap.size wo wr) (fun _ i _ _ _ => 12 - (intOf i).toNat)
        case atStart => exact ⟨0, by omega, rfl, rfl, fun m' h => absurd h (by omega), Below.refl _ _⟩
        case round =>
          obtain ⟨q, hq, rfl, rfl, HN, hbr⟩ := hrel
          by_cases hlt : q < 12
          · have hqI : (q : Int) < 12 := by omega
            have hAq := Arr.below hAr hbr (Arr.lt hAr)
            have cq := ArrI.at_ hAq (i := q) (by omega)
            have hbq := HBD.out q
            obtain ⟨x, hx⟩ : ∃ x, f q = x := ⟨_, rfl⟩
            rw [hx] at cq hbq
            have HXq := Lib.hid hx
            clear hx
            by_cases hx0 : x < 0
            · have HN' : Hid (∀ m', m' < q + 1 → 0 ≤ f m' → ¬ ∃ t, t ∈ ts ∧ Hop t size m' v (f m') (f v)) := by
                intro m' hm' h0
                by_cases he : m' = q
                · subst he; rw [HXq.out] at h0; omega
                · exact HN.out m' (by omega) h0
              clear HN hAq
              go_wp2
              go_roundw
              case rel => exact ⟨q + 1, by omega, rfl, by go_num, HN', hbr⟩
              case measure => simp [intOf]; omega
            · have hbw2 := (hbw.trans (hbv.mono hbw.size)).trans (hbr.mono (by have := hbw.size; omega))
              have hhq : Sl csW 6 wr B A n cap ts := h.below hbw2 hB
              have hsp := step_pred (size := size) HE.out hF q v (by rw [HXq.out]; omega)
              rw [HXq.out, HY.out] at hsp
              have HSP := Lib.hid hsp
              clear hsp
              go_wp2_with fail
              refine (step9_any B A n cap ts q v x size _ hhq (by have := hbw2.size; omega) hF (by omega) (by omega) hs1 hs2).mono ?_
              rintro e w3 ⟨rfl, hb3⟩
              have hbr3 := hbr.trans (hb3.mono hbr.size)
              have cv3 := (hbr3.cell (p := ⟨g, v, none⟩) (by have := Arr.lt hAr; dsimp only; omega)).trans cv
              obtain ⟨z, hz⟩ : ∃ z, (stepL q v x size ts).1 = z := ⟨_, rfl⟩
              obtain ⟨o, ho⟩ : ∃ o, (stepL q v x size ts).2 = o := ⟨_, rfl⟩
              rw [hz, ho] at HSP ⊢
              clear hz ho hbr hb3 hhq hbw2 hAq cq
              by_cases hoz : o = true ∧ z = y
              · obtain ⟨rfl, rfl⟩ := hoz
                have hhop := HSP.out.1 ⟨rfl, rfl⟩
                have hlp : LeastPred ts size f q v := ⟨by rw [HXq.out]; omega, by rw [HXq.out, HY.out]; exact hhop, fun m' h0 hx => by
                  rcases Nat.lt_or_ge m' q with h1 | h1
                  · exact absurd hx (HN.out m' h1 h0)
                  · exact h1⟩
                have hgt : f q < f v ∧ 0 ≤ f q := by
                  obtain ⟨t, ht, hop⟩ := hlp.hop
                  exact ⟨(hop.gt (hF t ht) hs1).1, hlp.pos⟩
                have HV' : Hid (q < 21 ∧ 0 ≤ f q ∧ (∀ l, Way ts size f c q l → Way ts size f c (12 + st) (l ++ (v :: rest))) ∧ ((v :: rest).length : Int) + f q ≤ 1000000000) := by
                  refine ⟨by omega, hlp.pos, fun l hl => ?_, ?_⟩
                  · have := HV.out.2.2.1 _ (Way.step q v l hvc hlp hl)
                    simpa using this
                  · have := HV.out.2.2.2; simp; omega
                have HGT := Lib.hid hgt
                have hr1 : rest.length ≤ 1000000000 := by have := HV.out.2.2.2; have := HV.out.2.1; omega
                clear hlp hgt hhop HSP
                have hwo := hbr3.size
                have hown3 : w3.ownsRow w1.heap.size 3 1 (.slice (some ⟨gw, 0, none⟩) (rest.length + 1) cap') (rest.length + 1) ((v :: rest).map (fun q : Nat => Value.int .i64 q)) := own_below hown hbr3
                have hownX := World.ownsRow_lit (e := 3) (size := 1) (base := w1.heap.size) w3 #[.int .i64 (q : Int)] 1 (by omega) (by decide) rfl
                have hgl := hown3.lt gw rfl
                have hcells := (hown3.alloc (.cells #[.int .i64 (q : Int)] 3)).cells (g := gw) rfl
                clear hown
                go_wp2_with (at_builtin; refine wpList_append_own _ rfl _ _ 27 rfl w1.heap.size 3 i0 (.int .i64 0) 1 8 (by kernel_rfl) hi hz0 hz1 hz2 rfl (by decide) _ _ _ rfl hownX ⟨gw, 0, none⟩ (rest.length + 1) cap' ((v :: rest).map (fun q : Nat => Value.int .i64 q)) rfl ?c1 hcells ?c2 ?c3 ?c4 ?c5 ?_)
                case c1 => simp
                case c2 => intro u hu; obtain ⟨q', _, rfl⟩ := List.mem_map.1 hu; rfl
                case c3 => unfold maxLen; omega
                case c4 => omega
                case c5 => simp; omega
                intro v' w4 hown4 hgrow hnil
                obtain ⟨g', cap2, rfl, hg1', hg2'⟩ := hown4.form (by omega)
                have hb4 : Below w1.heap.size w1 w4 := Below.grown ((hbv.trans (hbr3.mono hwr)).alloc (by omega) (.cells #[.int .i64 (q : Int)] 3)) hgrow (by simp; omega) (fun k hk => by have := hownX.lt k hk; omega)
                have hown5 : w4.ownsRow w1.heap.size 3 1 (.slice (some ⟨g', 0, none⟩) ((v :: rest).length + 1) cap2) ((v :: rest).length + 1) ((q :: v :: rest).map (fun q : Nat => Value.int .i64 q)) := by
                  simpa [Nat.add_comm] using hown4
                rw [show 1 + (rest.length + 1) = (v :: rest).length + 1 by simp; omega]
                clear hown4 hgrow hnil hown3 hownX hcells
                go_wp2
                go_roundw
                case rel => exact ⟨q, v :: rest, g', cap2, rfl, rfl, hown5, HV', hb4⟩
                case measure => have := HGT.out; simp [intOf]; omega
              · have HN' : Hid (∀ m', m' < q + 1 → 0 ≤ f m' → ¬ ∃ t, t ∈ ts ∧ Hop t size m' v (f m') (f v)) := by
                  intro m' hm' h0
                  by_cases he : m' = q
                  · subst he
                    rw [HXq.out, HY.out]
                    exact fun hx => hoz (HSP.out.2 hx)
                  · exact HN.out m' (by omega) h0
                clear HN HSP
                cases o with
                | false =>
                  clear hoz
                  go_wp2
                  go_roundw
                  case rel => exact ⟨q + 1, by omega, rfl, by go_num, HN', hbr3⟩
                  case measure => simp [intOf]; omega
                | true =>
                  have hzy : (z == y) = false := by simpa using hoz
                  clear hoz
                  go_wp2
                  go_roundw
                  case rel => exact ⟨q + 1, by omega, rfl, by go_num, HN', hbr3⟩
                  case measure => simp [intOf]; omega
          · exfalso
            obtain rfl : q = 12 := by omega
            obtain ⟨m, t, ht, h0, hop⟩ := HP.out
            exact HN.out m (hop.gt (hF t ht) hs1).2.1 h0 ⟨t, ht, hop⟩

end Go.Proofs.Ytijocgijnbcefaa
