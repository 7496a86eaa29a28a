/-
  approve.Signers (chapter 21).
-/
import Derived.Test.YtcljmnbjejcdaaaAppB
import Derived.Test.YtcljmnbjejcdaaaSetM
namespace Go.Proofs.Ytcljmnbjejcdaaa
open Go.ChangeShapes Go.WideShapes Go.ChangeAt Go.RowKit

theorem keyInt : Go.Maps.Keyed Try.prog 3 := Go.Maps.int_keyed Try.underlying3

set_option maxRecDepth 100000 in
set_option maxHeartbeats 1000000 in
/-- The closure of Signers: its captured persons and bytes lie in the boxes g1, g2. -/
theorem valid1_any (B : Nat) (A : Option Addr) (n cap : Nat) (ps : List Per) (a : App) (C : Option Addr) (m c : Nat) (xs : List UInt8) (g1 g2 : Nat) (w : World) (h : Sl csP 2 w B A n cap ps) (hp : ∀ p ∈ ps, U64 p.secret) (hB : B ≤ w.heap.size) (hs : Sl csB 1 w B C m c xs) (hm : m ≤ 1000000000000) (hg1 : g1 < w.heap.size) (hg2 : g2 < w.heap.size) (c1 : w.cell? ⟨g1, 0, none⟩ = some (.slice A n cap)) (c2 : w.cell? ⟨g2, 0, none⟩ = some (.slice C m c)) :
    Calls Try.prog 29 #[a.val, .pointer (some ⟨g1, 0, none⟩), .pointer (some ⟨g2, 0, none⟩)] w fun e w' => e = .returned (.bool (validB ps a xs)) ∧ Below w.heap.size w w' := by
  unfold App.val
  go_enter Try.func29, Try.ntmps29
  have bX := Blk.new w 25 #[.int .i64 a.person, .int .u64 (a.tag : Int)]
  have hb0 : Below w.heap.size w (w.alloc (.cells #[.int .i64 a.person, .int .u64 (a.tag : Int)] 25)) := (Below.refl _ _).alloc (Nat.le_refl _) _
  have hs0 : (w.alloc (.cells #[.int .i64 a.person, .int .u64 (a.tag : Int)] 25)).heap.size = w.heap.size + 1 := by simp
  have d1 := (hb0.cell (p := ⟨g1, 0, none⟩) hg1).trans c1
  have d2 := (hb0.cell (p := ⟨g2, 0, none⟩) hg2).trans c2
  have e0 := bX.cell 0; have e1 := bX.cell 1
  simp only [List.getElem?_toArray, List.getElem?_cons_zero, List.getElem?_cons_succ] at e0 e1
  go_wp2_with fail
  refine (valid_any B A n cap ps a C m c xs _ (h.below hb0 hB) hp (by rw [hs0]; omega) (hs.below hb0 hB) hm).mono ?_
  rintro e w1 ⟨rfl, hb1⟩
  have hend := hb0.trans (hb1.mono (by rw [hs0]; omega))
  go_wp2
  go_ret
  exact ⟨rfl, hend⟩

theorem zeroBool (w : World) : (zeroValue 4).run Try.prog w = .ok (.bool false) w := by kernel_rfl
theorem boolElem (x : Bool) : plainElem (H := Unit) Try.prog 4 (.bool x) = some (.lit (.bool x), []) := plainElem_bool Try.underlying4 x
theorem boolElem_any {P : Program} {e : TypeId} (he : P.underlying e = some .bool) {v : Value} {x : Bool} {ps : List MemPlace} (h : plainElem (H := Unit) P e v = some (.lit (.bool x), ps)) : v = .bool x := by
  unfold plainElem at h
  rw [he] at h
  cases v with
  | bool y =>
    replace h := Option.some.inj h
    injection h with h1 h2
    injection h1 with h1
    injection h1 with h1
    rw [h1]
  | _ => cases h
theorem boolElem_inv {v : Value} {x : Bool} {ps : List MemPlace} (h : plainElem (H := Unit) Try.prog 4 v = some (.lit (.bool x), ps)) : v = .bool x := boolElem_any Try.underlying4 h
theorem keyI {z : Int} (h : I64 z) : keyOf Try.prog 3 (.int .i64 z) = some (.int .i64 z) := by
  have hw : (Lit.int .i64 z).wf = true := WalkArith.wf_i64 (by unfold I64 at h; omega)
  simp [keyOf, Try.underlying3, mapKey, hw]
theorem map_below {w w' : World} {b k B : Nat} {D : DataW Unit} (h : w.ownsMap Try.prog 3 (plainElem Try.prog 4) b k D) (hb : Below B w w') (hB : b < B) : w'.ownsMap Try.prog 3 (plainElem Try.prog 4) b k D := by
  obtain ⟨es, clock, h1, F, hs, hD⟩ := h
  exact ⟨es, clock, (hb.block b hB).trans h1, F, hs, hD⟩
theorem look_set {w : World} {b k : Nat} {D : DataW Unit} {f : Int → Bool} (h : w.ownsMap Try.prog 3 (plainElem Try.prog 4) b k D) (hs : SetIs D f) {z : Int} (hz : I64 z) :
    (Instr.lookup 63 (.map (some b)) (.int .i64 z) false).run Try.prog w = .ok (.bool (f z)) w := by
  obtain ⟨v, ps, hrun, hv⟩ := h.lookup keyInt Try.underlying63 (zeroBool w) (boolElem false) (keyI hz)
  rw [hs.val] at hv
  rw [boolElem_inv hv] at hrun
  exact hrun

def SigSt (w : World) (A : Option Addr) (n cap : Nat) (C : Option Addr) (m c : Nat) (f : Int → Bool) (k : Nat) (wr : World) : Prop :=
  Below w.heap.size w wr ∧ w.heap.size + 3 ≤ wr.heap.size ∧ wr.cell? ⟨w.heap.size, 0, none⟩ = some (.slice A n cap) ∧ wr.cell? ⟨w.heap.size + 1, 0, none⟩ = some (.slice C m c) ∧ ∃ D : DataW Unit, wr.ownsMap Try.prog 3 (plainElem Try.prog 4) (w.heap.size + 2) k D ∧ SetIs D f
def sigF (ps : List Per) (xs : List UInt8) (l : List App) (z : Int) : Bool := l.any (fun a => validB ps a xs && decide (z = a.person))
theorem sigF_snoc {ps : List Per} {xs : List UInt8} {l : List App} {k : Nat} {a : App} (h : l[k]? = some a) (z : Int) : sigF ps xs (l.take (k + 1)) z = (sigF ps xs (l.take k) z || (validB ps a xs && decide (z = a.person))) := any_snoc h
theorem sigF_mem {ps : List Per} {xs : List UInt8} {l : List App} (z : Int) : z ∈ signersI ps l xs ↔ sigF ps xs l z = true := by
  unfold signersI sigF
  rw [List.mem_map, List.any_eq_true]
  constructor
  · rintro ⟨p, hp, rfl⟩
    obtain ⟨_, a, ha, h1, h2⟩ := mem_signers.1 hp
    exact ⟨a, ha, by rw [h2, h1]; simp⟩
  · rintro ⟨a, ha, h⟩
    rw [Bool.and_eq_true, decide_eq_true_eq] at h
    obtain ⟨h1, rfl⟩ := h
    have h2 := h1
    unfold validB inP at h2
    simp only [Bool.and_eq_true, decide_eq_true_eq] at h2
    exact ⟨a.person.toNat, mem_signers.2 ⟨by omega, a, ha, by omega, h1⟩, by omega⟩
theorem signersI_incr (ps : List Per) (l : List App) (b : List UInt8) : (signersI ps l b).Pairwise (fun x y => x < y) := by
  unfold signersI
  exact List.pairwise_map.2 ((signers_incr ps l b).imp (fun h => by omega))
theorem signersI_len (ps : List Per) (l : List App) (b : List UInt8) : (signersI ps l b).length ≤ ps.length := by
  have := signersTo_len ps l b ps.length; rw [signersTo_all] at this; exact this
theorem flat_csI : ∀ l : List Int, l.flatMap csI = l.map encZ
  | [] => rfl
  | x :: l => by rw [List.flatMap_cons, flat_csI l]; rfl

set_option maxRecDepth 100000 in
set_option maxHeartbeats 2000000 in
theorem signers_any (B : Nat) (A : Option Addr) (n cap : Nat) (ps : List Per) (D : Option Addr) (q d : Nat) (l : List App) (C : Option Addr) (m c : Nat) (xs : List UInt8) (w : World) (h : Sl csP 2 w B A n cap ps) (hp : ∀ p ∈ ps, U64 p.secret) (hB : B ≤ w.heap.size) (hd : Sl csA 2 w B D q d l) (hs : Sl csB 1 w B C m c xs) (hm : m ≤ 1000000000000) (hn : n ≤ 1000000000000) (hI : ∀ a ∈ l, I64 a.person) (hq : q ≤ 1000000000000) :
    Calls Try.prog 19 #[.slice A n cap, .slice D q d, .slice C m c] w fun e w' => ∃ v, e = .returned v ∧ Row csI 3 w' w.heap.size v (signersI ps l xs) ∧ Below w.heap.size w w' := by
  have HLd := Lib.hid hd.len
  have HLp := Lib.hid h.len
  have hqd := hd.ncap
  have hdm := hd.cmax
  have hmm := @run_makeMap Try.prog
  have hst : SigSt w A n cap C m c (sigF ps xs (l.take 0)) 0 (((w.alloc (.cells #[.slice A n cap] 22)).alloc (.cells #[.slice C m c] 26)).alloc (.map #[] 0)) := by
    have b1 := ((Blk.new w 22 #[.slice A n cap]).alloc (.cells #[.slice C m c] 26)).alloc (.map #[] 0)
    have b2 := (Blk.new (w.alloc (.cells #[.slice A n cap] 22)) 26 #[.slice C m c]).alloc (.map #[] 0)
    have h1 := b1.cell 0
    have h2 := b2.cell 0
    have hsz : (w.alloc (.cells #[.slice A n cap] 22)).heap.size = w.heap.size + 1 := by simp
    rw [hsz] at h2
    refine ⟨(((Below.refl _ _).alloc (Nat.le_refl _) _).alloc (by simp) _).alloc (by simp; omega) _, by simp, h1, h2, .map [], ?_, SetIs.new⟩
    have := World.ownsMap_made (H := Unit) ((w.alloc (.cells #[.slice A n cap] 22)).alloc (.cells #[.slice C m c] 26)) Try.prog 3 (plainElem Try.prog 4)
    simpa using this
  go_enter Try.func19, Try.ntmps19
  go_wp2
  obtain ⟨w0, hw0⟩ : ∃ w0, (((w.alloc (.cells #[.slice A n cap] 22)).alloc (.cells #[.slice C m c] 26)).alloc (.map #[] 0)) = w0 := ⟨_, rfl⟩
  rw [hw0] at hst ⊢
  clear hw0 hmm
  go_loopw [15] (fun i wr => ∃ k : Nat, k ≤ q ∧ i = .int .i64 k ∧ SigSt w A n cap C m c (sigF ps xs (l.take k)) k wr) (fun i _ => q - (intOf i).toNat)
  case atStart => exact ⟨0, by omega, rfl, hst⟩
  case round =>
    obtain ⟨k, hk, rfl, hbr, hsr, c1, c2, DD, hown, hset⟩ := hrel
    by_cases hkq : k < q
    · have hkI : (k : Int) < q := by omega
      obtain ⟨b, o, a, rfl, hb, hx, hc⟩ := hd.two_at hkq
      have q0 := hc wr (hbr.mono hB) 0 (.int .i64 a.person) rfl
      have q1 := hc wr (hbr.mono hB) 1 (.int .u64 (a.tag : Int)) rfl
      rw [Nat.add_zero] at q0
      have HX := Lib.hid (sigF_snoc (ps := ps) (xs := xs) hx)
      have hia := hI a (List.mem_of_getElem? hx)
      have HD := Lib.hid hd
      obtain ⟨wa, hwa⟩ : ∃ wa, wr.alloc (.cells #[.int .i64 a.person, .int .u64 (a.tag : Int)] 25) = wa := ⟨_, rfl⟩
      have hba : Below wr.heap.size wr wa := by rw [← hwa]; exact (Below.refl _ _).alloc (Nat.le_refl _) _
      have hsa : wa.heap.size = wr.heap.size + 1 := by rw [← hwa]; simp
      have bX := Blk.new wr 25 #[.int .i64 a.person, .int .u64 (a.tag : Int)]
      rw [hwa] at bX
      have e0 := bX.cell 0; have e1 := bX.cell 1
      simp only [List.getElem?_toArray, List.getElem?_cons_zero, List.getElem?_cons_succ] at e0 e1
      have hbwa := hbr.trans (hba.mono (by omega))
      have howa := map_below hown hba (by omega)
      have hrun := look_set howa hset hia
      have d1 := (hba.cell (p := ⟨w.heap.size, 0, none⟩) (by show w.heap.size < _; omega)).trans c1
      have d2 := (hba.cell (p := ⟨w.heap.size + 1, 0, none⟩) (by show w.heap.size + 1 < _; omega)).trans c2
      have HSet := Lib.hid hset
      clear hx hc hd hown hset
      cases hf : sigF ps xs (l.take k) a.person with
      | true =>
        rw [hf] at hrun
        have hst' : SigSt w A n cap C m c (sigF ps xs (l.take (k + 1))) (k + 1) wa := ⟨hbwa, by omega, d1, d2, DD, howa.mono (by omega), HSet.out.congr (fun z => by
          rw [HX.out]
          by_cases hz : z = a.person
          · subst hz; rw [hf]; rfl
          · simp [hz])⟩
        clear hf d1 d2
        go_wp2_with fail
        go_roundw
        case rel => exact ⟨k + 1, by omega, by go_num, hst'⟩
        case measure => simp [intOf]; omega
      | false =>
        rw [hf] at hrun
        clear hf
        go_wp2_with fail
        refine (valid1_any B A n cap ps a C m c xs w.heap.size (w.heap.size + 1) _ (h.below hbwa hB) hp (by omega) (hs.below hbwa hB) hm (by omega) (by omega) d1 d2).mono ?_
        rintro e w2 ⟨rfl, hb2⟩
        have hs2 := hb2.size
        have hbw2 := hbwa.trans (hb2.mono (by omega))
        have how2 := map_below howa hb2 (by omega)
        have k1 := (hb2.cell (p := ⟨w.heap.size, 0, none⟩) (by show w.heap.size < _; omega)).trans d1
        have k2 := (hb2.cell (p := ⟨w.heap.size + 1, 0, none⟩) (by show w.heap.size + 1 < _; omega)).trans d2
        have e2 := (hb2.cell (p := ⟨wr.heap.size, 0, none⟩) (by show wr.heap.size < _; omega)).trans e0
        clear hrun d1 d2 howa
        cases hv : validB ps a xs with
        | false =>
          have hst' : SigSt w A n cap C m c (sigF ps xs (l.take (k + 1))) (k + 1) w2 := ⟨hbw2, by omega, k1, k2, DD, how2.mono (by omega), HSet.out.congr (fun z => by
            rw [HX.out, hv]; simp)⟩
          clear hv k1 k2 how2
          go_wp2
          go_roundw
          case rel => exact ⟨k + 1, by omega, by go_num, hst'⟩
          case measure => simp [intOf]; omega
        | true =>
          obtain ⟨w3, hupd, how3, hg3⟩ := how2.update keyInt Try.underlying63 (show k < maxLen by unfold maxLen; omega) (keyI hia) (boolElem true)
          have hst' : SigSt w A n cap C m c (sigF ps xs (l.take (k + 1))) (k + 1) w3 := ⟨hbw2.grown hg3 hbw2.size (fun j e => by cases e; omega), by have := hg3.size; omega,
            (World.cell?_of_block (hg3.block w.heap.size (by omega) (by simp))).trans k1, (World.cell?_of_block (hg3.block (w.heap.size + 1) (by omega) (by simp))).trans k2, _, how3, (HSet.out.put a.person).congr (fun z => by
            rw [HX.out, hv, Bool.true_and])⟩
          clear hv k1 k2 how2 how3 hg3
          go_wp2
          go_roundw
          case rel => exact ⟨k + 1, by omega, by go_num, hst'⟩
          case measure => simp [intOf]; omega
    · obtain rfl : q = k := by omega
      have hE : l.take q = l := List.take_of_length_le (by rw [HLd.out]; omega)
      rw [hE] at hset
      have hnd : (signersI ps l xs).Nodup := (signersI_incr ps l xs).imp (fun h e => by omega)
      have htd := hown.tidy keyInt
      have hsz := hset.size htd hnd sigF_mem
      have hle := signersI_len ps l xs
      rw [HLp.out, ← hsz] at hle
      have hbm : Below wr.heap.size wr (wr.alloc (.cells #[.map (some (w.heap.size + 2))] 63)) := (Below.refl _ _).alloc (Nat.le_refl _) _
      have hss := sorted_calls (w.heap.size + 2) q DD wr.heap.size (wr.alloc (.cells #[.map (some (w.heap.size + 2))] 63)) (by simp) ((Blk.new wr 63 #[.map (some (w.heap.size + 2))]).cell 0) (map_below hown hbm (by omega)) (by unfold maxLen; omega) (by omega)
      have hbe := hbr.trans (hbm.mono (by omega))
      have HS := Lib.hid hss
      have HSet := Lib.hid (fun (ss : List Int) (h9 : ss.Perm (intKeys DD)) => hset.sorted htd h9 (signersI_incr ps l xs) sigF_mem)
      clear hss hset hown htd hnd hsz hle
      go_wp2_with fail
      refine (keys_calls _ _).mono ?_
      rintro e w2 ⟨rfl, rfl⟩
      go_wp2_with fail
      refine HS.out.mono ?_
      rintro e w3 ⟨v, ss, rfl, hperm, hrow, hb3⟩
      rw [HSet.out ss hperm] at hrow
      have hlen : ss.length = (signersI ps l xs).length := by rw [← HSet.out ss hperm, List.length_mergeSort]
      rw [hlen] at hrow
      have HR : Hid (Row csI 3 w3 w.heap.size v (signersI ps l xs)) := by
        have h9 : Row csI 3 w3 (wr.alloc (.cells #[.map (some (w.heap.size + 2))] 63)).heap.size v (signersI ps l xs) := by unfold Row; rw [flat_csI]; exact hrow
        exact h9.lower (by simp; omega)
      have hend := hbe.trans (hb3.mono (by simp; omega))
      clear hrow hlen hperm
      go_wp2
      go_ret
      exact ⟨v, rfl, HR.out, hend⟩
end Go.Proofs.Ytcljmnbjejcdaaa
