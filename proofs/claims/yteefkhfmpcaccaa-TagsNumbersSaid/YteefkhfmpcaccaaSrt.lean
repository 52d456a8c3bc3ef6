/- The library's sorts, over rows of one's own. -/
import Derived.Test.YteefkhfmpcaccaaSrt0
import Derived.Shelf.SlSortCmp.NoneTotal
import Derived.Shelf.SortM.Plain
import Derived.Shelf.SortM.SortNone
namespace Go.Proofs.Yteefkhfmpcaccaa
open Go Go.Sort Go.RowKit Go.Shelf
set_option linter.unusedVariables false

theorem flatK_flat {α : Type} [Inhabited α] {enc : α → List Value} {k : Nat} (hk : ∀ x, (enc x).length = k) (d : Array α) : (Sort.flatK enc k d).toList.map id = d.toList.flatMap enc := by
  rw [List.map_id]
  have hl : ∀ l : List α, (l.flatMap enc).length = l.length * k := fun l => by
    induction l with
    | nil => simp
    | cons x l ih => rw [List.flatMap_cons, List.length_append, hk, ih, List.length_cons, Nat.add_mul]; omega
  have hg : ∀ (l : List α) (t : Nat), t < l.length * k → (l.flatMap enc)[t]? = some ((enc l[t / k]!)[t % k]!) := fun l => by
    induction l with
    | nil => intro t h; simp at h
    | cons x l ih =>
      intro t ht
      rw [List.length_cons, Nat.add_mul] at ht
      have k0 : 0 < k := by rcases Nat.eq_zero_or_pos k with h | h; · subst h; simp at ht
                            · exact h
      rw [List.flatMap_cons]
      by_cases h1 : t < k
      · rw [List.getElem?_append_left (by rw [hk]; exact h1), Nat.div_eq_of_lt h1, Nat.mod_eq_of_lt h1]
        have : t < (enc x).length := by rw [hk]; exact h1
        rw [List.getElem?_eq_getElem this]
        simp [this]
      · rw [List.getElem?_append_right (by rw [hk]; omega), hk, ih (t - k) (by omega)]
        have e1 : t / k = (t - k) / k + 1 := by rw [← Nat.add_div_right _ k0, Nat.sub_add_cancel (by omega)]
        have e2 : t % k = (t - k) % k := by rw [Nat.mod_eq_sub_mod (by omega)]
        rw [e1, e2]
        simp
  apply List.ext_getElem?
  intro t
  by_cases ht : t < d.size * k
  · rw [hg d.toList t (by simpa using ht), Array.getElem?_toList, Array.getElem?_eq_getElem (by simpa using ht)]
    have := Sort.get_flatK enc k d t ht
    rw [getElem!_pos _ t (by simpa using ht)] at this
    have hdk : t / k < d.size := Nat.div_lt_of_lt_mul (by rw [Nat.mul_comm]; exact ht)
    rw [this, getElem!_pos d _ hdk, getElem!_pos d.toList _ (by simpa using hdk)]
    simp
  · rw [Array.getElem?_toList, Array.getElem?_eq_none (by simpa using ht), List.getElem?_eq_none (by rw [hl]; simpa using ht)]

/-- slices.SortFunc, of structs. -/
theorem St.sortFuncK {P : Program} {ρ : Ren} {α : Type} [Inhabited α] (L : SlLaysF0.n6 P ρ) {k : Nat} (aE : ∀ w, (isAgg (ρ.t 24)).run P w = .ok true w) (zE : ∀ w, (Go.sizeOf (ρ.t 24)).run P w = .ok k w) {enc : α → List Value} (hk : ∀ x, (enc x).length = k) (h1 : ∀ x, ∀ v ∈ enc x, v.oneCell' = true) {cf : α → α → Int} (hO : SWO (ltOf cf))
    {g : Nat} (eg : ∀ args w, (callFunc g args).run P w = .ok (.enter g args) w) (hcmp : ∀ (W : World) (x y : α), Calls P g #[.agg (enc x).toArray, .agg (enc y).toArray] W fun e w' => St W (Old W) w' ∧ e = .returned (.int .i64 (cf x y)))
    (hT : ∀ x y, (ltOf cf) x y = false → (ltOf cf) y x = false → x = y) {T : TypeId} {v : Value} {l : List α} {F : HP} {w0 w : World} (h : St w0 (RowO T k v l.length (l.flatMap enc) * F) w) (hsz : l.length < 4611686018427387904) :
    Calls P (ρ.f 6) #[v, .func (.func g) #[] #[]] w fun e w' => St w0 (RowO T k v l.length ((l.mergeSort fun x y => !(ltOf cf) y x).flatMap enc) * F) w' ∧ e = .returned (.tuple #[]) := by
  have hx := flatK_flat hk l.toArray
  have hx' := flatK_flat hk (l.mergeSort fun x y => !(ltOf cf) y x).toArray
  rw [List.toList_toArray] at hx hx'
  have key := sort_bridge (enc := id) (fn := ρ.f 6) (args := fun v => #[v, .func (.func g) #[] #[]]) (d' := Sort.flatK enc k (l.mergeSort fun x y => !(ltOf cf) y x).toArray) (P := P) h hx (by simp)
    (fun p cap => AnyF.slices_SortFunc_none { L with } p cap _ w) (fun b o cap hv hH hb => by
      have hc : CmpLays P g #[] enc k cf b o l.toArray.size w := fun m os dk _ x y => (hcmp _ x y).mono fun e w' ⟨hst, he⟩ => ⟨he, hst.exact⟩
      have := AnyQ.slices_SortFunc_total L k aE zE enc hk h1 cf hO g #[] b o cap l.toArray w eg hc hH hb (by simpa using hsz) hT
      simpa [sortWorldK, putRowK] using this)
  rw [hx'] at key
  exact key

/-- slices.SortFunc, of structs of which some may be alike to it. -/
theorem St.sortFuncP {P : Program} {ρ : Ren} {α : Type} [Inhabited α] (L : SlLaysF0.n6 P ρ) {k : Nat} (aE : ∀ w, (isAgg (ρ.t 24)).run P w = .ok true w) (zE : ∀ w, (Go.sizeOf (ρ.t 24)).run P w = .ok k w) {enc : α → List Value} (hk : ∀ x, (enc x).length = k) (h1 : ∀ x, ∀ v ∈ enc x, v.oneCell' = true) {cf : α → α → Int} (hO : SWO (ltOf cf))
    {g : Nat} (eg : ∀ args w, (callFunc g args).run P w = .ok (.enter g args) w) (hcmp : ∀ (W : World) (x y : α), Calls P g #[.agg (enc x).toArray, .agg (enc y).toArray] W fun e w' => St W (Old W) w' ∧ e = .returned (.int .i64 (cf x y)))
    {T : TypeId} {v : Value} {l : List α} {F : HP} {w0 w : World} (h : St w0 (RowO T k v l.length (l.flatMap enc) * F) w) (hsz : l.length < 4611686018427387904) :
    Calls P (ρ.f 6) #[v, .func (.func g) #[] #[]] w fun e w' => ∃ l' : List α, l'.Perm l ∧ l'.Pairwise (fun x y => ltOf cf y x = false) ∧ St w0 (RowO T k v l.length (l'.flatMap enc) * F) w' ∧ e = .returned (.tuple #[]) := by
  have hx := flatK_flat hk l.toArray
  rw [List.toList_toArray] at hx
  have hx := flatK_flat hk l.toArray
  rw [List.toList_toArray] at hx
  rcases RowO.place h with ⟨rfl, hl, _⟩ | ⟨b, o, cap, cur, rfl, _⟩
  · obtain rfl : l = [] := List.eq_nil_of_length_eq_zero hl
    exact (AnyF.slices_SortFunc_none { L with } none 0 _ w).mono fun e w' ⟨he, hw⟩ => ⟨[], .refl _, .nil, by rw [hw]; exact h, he⟩
  · obtain ⟨hH, hb⟩ := RowO.holds (enc := id) h hx
    have hc : CmpLays P g #[] enc k cf b o l.toArray.size w := fun m os dk _ x y => (hcmp _ x y).mono fun e w' ⟨hst, he⟩ => ⟨he, hst.exact⟩
    refine (AnyQ.slices_SortFunc L k aE zE enc hk h1 cf hO g #[] b o cap l.toArray w eg hc hH hb (by simpa using hsz)).mono ?_
    rintro e w' ⟨he, d', m, os, hp, hs, rfl⟩
    have hd : d'.size = l.length := by simpa using hp.1
    have hpm : d'.toList.Perm l := by
      have := hp.2.2
      simp only [List.size_toArray, ← hd, Array.extract_size] at this
      rw [hd] at this
      simpa using this
    refine ⟨d'.toList, hpm, ?_, ?_, he⟩
    · rw [List.pairwise_iff_getElem]
      intro i j hi hj hij
      have := hs i j (Nat.zero_le _) hij (by simpa [hd] using hj)
      rw [getElem!_pos d' j (by simpa using hj), getElem!_pos d' i (by simpa using hi)] at this
      simpa using this
    · have hx' := flatK_flat hk d'
      rw [← hx']
      exact h.putRow (enc := id) (d' := Sort.flatK enc k d') (by rw [← hx, List.length_map, Array.length_toList, Sort.size_flatK, Sort.size_flatK, hd]; simp)

/-- slices.Sort, of ints. -/
theorem St.sortInts {P : Program} {ρ : Ren} (L : SlLaysM.n5 P ρ) {T : TypeId} {v : Value} {l : List Int} {F : HP} {w0 w : World} (h : St w0 (RowO T 1 v l.length (l.map (Value.int .i64)) * F) w) (hsz : l.length < 4611686018427387904) :
    Calls P (ρ.f 5) #[v] w fun e w' => St w0 (RowO T 1 v l.length ((l.mergeSort fun x y => decide (x ≤ y)).map (Value.int .i64)) * F) w' ∧ e = .returned (.tuple #[]) :=
  sort_bridge (enc := Value.int .i64) (fn := ρ.f 5) (args := fun v => #[v]) (d := l.toArray) (d' := (l.mergeSort fun x y => decide (x ≤ y)).toArray) h (by simp) (by simp)
    (fun p cap => AnyM.slices_Sort_int_none L p cap w) (fun b o cap _ hH hb => AnyM.slices_Sort_int L b o cap l w hH hb hsz)

end Go.Proofs.Yteefkhfmpcaccaa
