/-
  slices.Sorted(maps.Keys(m)) for a map[int]bool, as two calls; sets of ints as maps that a call makes.
-/
import Derived.Test.YtcljmnbjejcdaaaSrtK
import Derived.Test.YtcljmnbjejcdaaaHashA
import Derived.Maps.OwnSet
namespace Go.Proofs.Ytcljmnbjejcdaaa
open Go.RowKit Go.Maps Go.Sort Go.Shelf

theorem keysSorts (m : Nat) : AnyZI.SortsIn Try.prog Try.sortedA_ren Fence.wide m :=
  ⟨fun blk off cap ss W hH hblk hsz => callsIn_wide.2 (AnyM.slices_Sort_int Try.sortA blk off cap ss W hH hblk hsz),
   fun p cap W => callsIn_wide.2 (AnyM.slices_Sort_int_none Try.sortA p cap W)⟩

theorem keys_calls (mb : Option Nat) (W : World) : Calls Try.prog 31 #[.map mb] W fun e w' => e = .returned (.func (.func 41) #[] #[.pointer (some ⟨W.heap.size, 0, none⟩)]) ∧ w' = W.alloc (.cells #[.map mb] 63) :=
  (callsIn_wide (n := 5)).1 (AnyZI.keys_in Try.keysA Fence.wide 5 trivial rfl mb W)

theorem sorted_calls {H : Type} (b nn : Nat) (D0 : DataW H) {R : Value → Option (DataW H × List MemPlace)} (Bm : Nat) (W : World) (hB : Bm < W.heap.size) (hm : W.cell? ⟨Bm, 0, none⟩ = some (.map (some b))) (hown : W.ownsMap Try.prog 3 R b nn D0) (hmax : Maps.size D0 ≤ maxLen) (hbytes : Maps.size D0 * 8 ≤ 140737488355328) :
    Calls Try.prog 30 #[.func (.func 41) #[] #[.pointer (some ⟨Bm, 0, none⟩)]] W fun e w' => ∃ (v : Value) (ss : List Int), e = .returned v ∧ ss.Perm (intKeys D0) ∧
      w'.ownsRow W.heap.size 3 1 v ss.length ((ss.mergeSort leI).map encZ) ∧ Below W.heap.size W w' := by
  have hseq : SeqGives Fence.wide 2 Try.prog 41 #[.pointer (some ⟨Bm, 0, none⟩)] encZ (fun ss => ss.Perm (intKeys D0)) (Maps.size D0) W :=
    AnyZI.keys_gives (ρ := Try.keysA_ren) { Try.keysA with } Fence.wide 2 trivial rfl (by omega) Bm b nn D0 W hB hm hown
  have cS := AnyZI.sorted_in Try.sortedA Fence.wide 5 trivial trivial trivial trivial rfl (by omega) (keysSorts _) (enters_of Try.func40 (by kernel_rfl) rfl) 41 #[.pointer (some ⟨Bm, 0, none⟩)] trivial (enters_of Try.func41 (by kernel_rfl) rfl) _ _ hmax hbytes _ hseq
  refine (callsIn_wide (n := 5)).1 (CallsIn.mono cS ?_)
  rintro e w' ⟨v, ss, rfl, hS, hrow, hnil, hb⟩
  exact ⟨v, ss, rfl, hS, hrow, hb⟩

/-! ### sets of ints -/
theorem insert_mem {H : Type} {x p : Lit × DataW H} : ∀ {l : List (Lit × DataW H)}, p ∈ DataW.insert x l → p = x ∨ p ∈ l
  | [], h => by simp [DataW.insert] at h; exact .inl h
  | y :: r, h => by
    unfold DataW.insert at h
    split at h
    · simpa using h
    · rcases List.mem_cons.1 h with rfl | h
      · exact .inr (by simp)
      · rcases insert_mem h with h | h
        · exact .inl h
        · exact .inr (by simp [h])

structure SetIs {H : Type} (D : DataW H) (f : Int → Bool) : Prop where
  map : IsMap D
  val : ∀ z, D.atKey (.int .i64 z) (.lit (.bool false)) = .lit (.bool (f z))
  has : ∀ z, Maps.has D (.int .i64 z) = f z
  keys : ∀ es, D = .map es → ∀ p ∈ es, ∃ x, p.1 = .int .i64 x
section
variable {H : Type} {D : DataW H} {f g : Int → Bool}
theorem SetIs.new : SetIs (.map [] : DataW H) (fun _ => false) := ⟨⟨[], rfl⟩, fun _ => rfl, fun _ => rfl, fun es h p hp => by cases h; cases hp⟩
theorem SetIs.congr (h : SetIs D f) (e : ∀ z, g z = f z) : SetIs D g := by have : g = f := funext e; rw [this]; exact h
theorem SetIs.put (h : SetIs D f) (x : Int) : SetIs (D.put (.int .i64 x) (.lit (.bool true))) (fun z => f z || decide (z = x)) := by
  have hk : WideAt.IsKeyLit (.int .i64 x) := trivial
  refine ⟨h.map.put _ _, fun z => ?_, fun z => ?_, fun es he p hp => ?_⟩
  · by_cases hz : z = x
    · subst hz; rw [atKey_put_same h.map hk]; simp
    · rw [atKey_put_other (by intro e; injection e with _ e; exact hz e), h.val]; simp [hz]
  · by_cases hz : z = x
    · subst hz; rw [has_put_same h.map hk]; simp
    · rw [has_put_other (by intro e; injection e with _ e; exact hz e), h.has]; simp [hz]
  · obtain ⟨es0, h0⟩ := h.map
    have hkk := h.keys es0 h0
    subst h0
    have he' : DataW.insert (Lit.int .i64 x, .lit (.bool true)) (es0.filter fun p => !p.1.sameKey (.int .i64 x)) = es := by
      have := he; unfold DataW.put at this; injection this
    rw [← he'] at hp
    rcases insert_mem hp with rfl | hp
    · exact ⟨x, rfl⟩
    · exact hkk p (List.mem_filter.1 hp).1

theorem SetIs.sorted (h : SetIs D f) (ht : Tidy D) {ss L : List Int} (hss : ss.Perm (intKeys D)) (hL : L.Pairwise (fun x y => x < y)) (hm : ∀ z, z ∈ L ↔ f z = true) : ss.mergeSort leI = L := by
  obtain ⟨es, rfl, hp⟩ := ht
  have hnd : L.Nodup := hL.imp (fun h e => by omega)
  have hLp : L.Perm (intKeys (.map es : DataW H)) := perm_intKeys hp (h.keys es rfl) hnd (fun x => by rw [h.has, hm])
  rw [mergeSort_of_perm_i (hss.trans hLp.symm)]
  exact List.mergeSort_of_pairwise (hL.imp (fun h => by simp [leI]; omega))
theorem SetIs.size (h : SetIs D f) (ht : Tidy D) {L : List Int} (hL : L.Nodup) (hm : ∀ z, z ∈ L ↔ f z = true) : Maps.size D = L.length := by
  obtain ⟨es, rfl, hp⟩ := ht
  have hLp : L.Perm (intKeys (.map es : DataW H)) := perm_intKeys hp (h.keys es rfl) hL (fun x => by rw [h.has, hm])
  rw [hLp.length_eq]
  simp [intKeys, size_eq]
end
end Go.Proofs.Ytcljmnbjejcdaaa
