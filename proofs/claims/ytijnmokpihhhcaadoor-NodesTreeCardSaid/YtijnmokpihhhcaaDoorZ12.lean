/- A node is no more: what is always so of the memory. · A node is no more. · A node is called otherwise. · A node is called otherwise: the walk. · Operations: turn, Do. · A store of the root alone. · The law's first helpers: store, mak. · What the chapter's first and third examples fix. · What the chapter's first and third examples fix: the walk. · NodesNames: the walk. · Arguments that are rows of structs with slices in them, as rows that are read. · Arguments that are rows of numbers or of texts, as rows that are read. · Operations handed in, and their weight. · Operations handed in: their weight, and a store behind them. · Paths rise: the plain law. · Loops over functions whose rounds begin with memory of their own. · All nodes, one by one; in a list. · All nodes in a list. · It is a tree: the plain law. · It is a tree: find, sound. · It is a tree: found. · Paths rise: the walk. · NodesTree: the walk. · Operations handed in, their data as bytes. -/
import Derived.Test.YtijnmokpihhhcaaDoorZ1
import Derived.Test.YtijnmokpihhhcaaDoorZ2
import Derived.Test.YtijnmokpihhhcaaDoorZ3
import Derived.Test.YtijnmokpihhhcaaDoorZ4
import Derived.Test.YtijnmokpihhhcaaDoorZ5
import Derived.Test.YtijnmokpihhhcaaDoorZ6
import Derived.Test.YtijnmokpihhhcaaDoorZ7
import Derived.Test.YtijnmokpihhhcaaDoorZ8
import Derived.Test.YtijnmokpihhhcaaDoorZ9
import Derived.Test.YtijnmokpihhhcaaDoorZ10
import Derived.Test.YtijnmokpihhhcaaDoorZ11
import Derived.SizedLaws
namespace Go.Proofs.YtijnmokpihhhcaaDoor
open Go
set_option linter.unusedVariables false
set_option linter.unusedSimpArgs false
set_option maxRecDepth 100000

section
variable {κ : Type} [DecidableEq κ]
theorem lk_del {x y : κ} : ∀ {l : List (κ × Value)}, (l.map (·.1)).Nodup → lk x (del y l) = if x = y then none else lk x l
  | [], _ => by simp [del, lk]
  | (z, u) :: l, hn => by
    simp only [List.map_cons, List.nodup_cons] at hn
    by_cases h : y = z
    · subst h
      simp only [del, if_true, lk]
      by_cases hx : x = y
      · subst hx
        rw [if_pos rfl, lk_not hn.1]
      · rw [if_neg hx, if_neg hx]
    · simp only [del, h, if_false, lk]
      rw [lk_del hn.2]
      by_cases hx : x = z
      · have : ¬ x = y := fun e => h (by rw [← e, hx])
        simp [hx, Ne.symm h]
      · simp [hx]
theorem del_mid {x : κ} {v : Value} : ∀ {l r : List (κ × Value)}, x ∉ l.map (·.1) → del x (l ++ (x, v) :: r) = l ++ r
  | [], r, _ => by simp [del]
  | (z, u) :: l, r, h => by
    simp only [List.map_cons, List.mem_cons, not_or] at h
    simp only [List.cons_append, del, if_neg h.1, del_mid h.2]
end

theorem find_filter {α : Type} {f g : α → Bool} : ∀ {L : List α}, (∀ y ∈ L, g y = true → f y = true) → (L.filter f).find? g = L.find? g
  | [], _ => rfl
  | x :: L, h => by
    have ih := find_filter (L := L) fun y hy => h y (List.mem_cons_of_mem _ hy)
    rw [List.filter_cons]
    cases hg : g x
    · simp only [List.find?, hg]
      split
      · simp only [List.find?, hg]; exact ih
      · exact ih
    · rw [if_pos (h x List.mem_cons_self hg)]
      simp only [List.find?, hg]

theorem kids_drop (L : List NodeD) (p q : Nat) : kidsF (dropN L p) q = (kidsF L q).filter fun k => !(k == p) := by
  unfold kidsF dropN
  rw [List.filter_map, List.filter_filter, List.filter_filter]
  congr 1
  apply List.filter_congr
  intro x _
  simp only [Function.comp]
  rw [Bool.and_comm]

theorem storeOk_drop {s : SD} {y : SX} (ok : StoreOk s y) {X1 X2 Z1 Z2 : List NN} {x z : NN} {vk' ov' : Value} (hs : y.X = X1 ++ x :: X2) (hz : X1 ++ X2 = Z1 ++ z :: Z2) (hzp : z.d.i.path = x.d.i.parent) (h1 : x.d.i.path ≠ 1)
    (hcl : (y.cl.map (·.1)).Nodup) (hw : Wf { s with L := dropN s.L x.d.i.path }) :
    StoreOk { s with L := dropN s.L x.d.i.path } { y with ov := ov', X := Z1 ++ { z with vk := vk', ks := z.ks.filter fun k => !(k == x.d.i.path) } :: Z2, cl := del (x.d.i.parent, x.d.i.name) y.cl } := by
  have hx : x ∈ y.X := by rw [hs]; simp
  have hd : x.d ∈ s.L := ok.perm.mem_iff.1 (List.mem_map.2 ⟨x, hx, rfl⟩)
  have hnd := ok.paths
  have hmem : ∀ u, u ∈ X1 ++ X2 → u ∈ y.X ∧ u.d.i.path ≠ x.d.i.path := fun u hu => by
    rw [hs, List.map_append, List.map_cons, List.nodup_append] at hnd
    obtain ⟨_, h2, h3⟩ := hnd
    rw [List.nodup_cons] at h2
    rw [hs]
    rcases List.mem_append.1 hu with h | h
    · exact ⟨by simp [h], fun e => h3 _ (List.mem_map.2 ⟨u, h, rfl⟩) _ List.mem_cons_self e⟩
    · exact ⟨by simp [h], fun e => h2.1 (List.mem_map.2 ⟨u, h, e⟩)⟩
  have hzm : z ∈ X1 ++ X2 := by rw [hz]; simp
  have hzu : ∀ u, u ∈ Z1 ∨ u ∈ Z2 → u ∈ X1 ++ X2 ∧ u.d.i.path ≠ z.d.i.path := fun u hu => by
    have hn : ((X1 ++ X2).map (fun x => x.d.i.path)).Nodup := by
      rw [hs] at hnd
      have : ((X1 ++ X2).map (fun x => x.d.i.path)).Sublist ((X1 ++ x :: X2).map (fun x => x.d.i.path)) := by
        apply List.Sublist.map
        exact List.Sublist.append_left (List.sublist_cons_self _ _) _
      exact this.nodup hnd
    rw [hz, List.map_append, List.map_cons, List.nodup_append] at hn
    obtain ⟨_, h2, h3⟩ := hn
    rw [List.nodup_cons] at h2
    rw [hz]
    rcases hu with h | h
    · exact ⟨by simp [h], fun e => h3 _ (List.mem_map.2 ⟨u, h, rfl⟩) _ List.mem_cons_self e⟩
    · exact ⟨by simp [h], fun e => h2.1 (List.mem_map.2 ⟨u, h, e⟩)⟩
  have cases3 : ∀ u, u ∈ Z1 ++ { z with vk := vk', ks := z.ks.filter fun k => !(k == x.d.i.path) } :: Z2 → u = { z with vk := vk', ks := z.ks.filter fun k => !(k == x.d.i.path) } ∨ (u ∈ Z1 ∨ u ∈ Z2) := fun u hu => by
    simp only [List.mem_append, List.mem_cons] at hu
    rcases hu with h | h | h
    · exact .inr (.inl h)
    · exact .inl h
    · exact .inr (.inr h)
  refine ⟨hw, ?_, fun u hu => ?_, fun u hu => ?_, fun dir nm => ?_⟩
  · have h4 := ok.perm.filter (fun n => !(n.i.path == x.d.i.path))
    have h5 : (y.X.map (·.d)).filter (fun n => !(n.i.path == x.d.i.path)) = (X1 ++ X2).map (·.d) := by
      have hall : ∀ n ∈ (X1 ++ X2).map (·.d), (!(n.i.path == x.d.i.path)) = true := fun n hn => by
        obtain ⟨u, hu, rfl⟩ := List.mem_map.1 hn
        have := (hmem u hu).2
        simpa using this
      rw [hs, List.map_append, List.map_cons, List.filter_append, List.filter_cons, if_neg (by simp), ← List.filter_append, ← List.map_append]
      exact List.filter_eq_self.2 hall
    rw [h5, hz] at h4
    show List.Perm ((Z1 ++ { z with vk := vk', ks := z.ks.filter fun k => !(k == x.d.i.path) } :: Z2).map (·.d)) (dropN s.L x.d.i.path)
    have h6 : (Z1 ++ { z with vk := vk', ks := z.ks.filter fun k => !(k == x.d.i.path) } :: Z2).map (·.d) = (Z1 ++ z :: Z2).map (·.d) := by simp
    rw [h6]
    exact h4
  · show u.ks = kidsF (dropN s.L x.d.i.path) u.d.i.path
    rw [kids_drop]
    rcases cases3 u hu with rfl | h
    · rw [ok.kids z (hmem z hzm).1]
    · obtain ⟨h2, h3⟩ := hzu u h
      rw [ok.kids u (hmem u h2).1]
      refine (List.filter_eq_self.2 fun k hk => ?_).symm
      unfold kidsF at hk
      obtain ⟨m, hm, rfl⟩ := List.mem_map.1 hk
      obtain ⟨hm1, hm2⟩ := List.mem_filter.1 hm
      have hm3 := (isKid_iff ok.wf hm1).1 hm2
      cases e : m.i.path == x.d.i.path
      · rfl
      · have := rise_inj ok.wf.rise hm1 hd (by simpa using e)
        subst this
        exact absurd (by rw [hzp, hm3.1]) h3
  · rcases cases3 u hu with rfl | h
    · exact ok.bytes z (hmem z hzm).1
    · exact ok.bytes u (hmem u (hzu u h).1).1
  · show lk (dir, nm) (del (x.d.i.parent, x.d.i.name) y.cl) = (childF (dropN s.L x.d.i.path) dir nm).map u64V
    rw [lk_del hcl]
    by_cases e : (dir, nm) = (x.d.i.parent, x.d.i.name)
    · rw [if_pos e]
      simp only [Prod.mk.injEq] at e
      obtain ⟨rfl, rfl⟩ := e
      have : childF (dropN s.L x.d.i.path) x.d.i.parent x.d.i.name = none := by
        cases hc : childF (dropN s.L x.d.i.path) x.d.i.parent x.d.i.name with
        | none => rfl
        | some q =>
          obtain ⟨m, hm, rfl, hk, hn⟩ := child_some hc
          obtain ⟨hm1, hm2⟩ := List.mem_filter.1 hm
          obtain ⟨k1, k2⟩ := (isKid_iff ok.wf hm1).1 hk
          have := ok.wf.one m hm1 x.d hd k2 h1 k1 hn
          simp [this] at hm2
      rw [this]; rfl
    · rw [if_neg e, ok.child]
      congr 1
      unfold childF dropN
      rw [find_filter]
      intro m hm hg
      simp only [Bool.and_eq_true, beq_iff_eq] at hg
      cases e2 : m.i.path == x.d.i.path
      · rfl
      · have := rise_inj ok.wf.rise hm hd (by simpa using e2)
        subst this
        have hk := (isKid_iff ok.wf hm).1 hg.1
        exact absurd (by rw [hk.1, hg.2]) e
end Go.Proofs.YtijnmokpihhhcaaDoor

namespace Go.Proofs.YtijnmokpihhhcaaDoor
open Go
set_option linter.unusedVariables false
set_option linter.unusedSimpArgs false
set_option maxRecDepth 100000

theorem drop_paths (L : List NodeD) (p : Nat) : (dropN L p).map (·.i.path) = (L.map (·.i.path)).filter fun k => !(k == p) := by
  unfold dropN
  rw [List.filter_map]; rfl

section
variable {w0 w : World} {A : HP} {b B K : Nat} {s : SD} {y : SX} {X1 X2 : List NN} {x : NN} {t : Inf} {st rc : Int} {e : FA} {R : Ending → World → Prop}

section
attribute [local go_sem] F66.t6_eq
theorem drop_any (ok : StoreOk s y) (hs : y.X = X1 ++ x :: X2) (hw : Wf (delF s x.d).1) (h : St w0 (StoreQ b st rc s y * A) w) :
    Calls Tryd.prog 66 #[.pointer (some ⟨b, 0, none⟩), .pointer (some ⟨x.n, 0, none⟩)] w (TurnR w0 A b st rc (delF s x.d)) := by
  have hx : x ∈ y.X := by rw [hs]; simp
  have hdm : x.d ∈ s.L := ok.perm.mem_iff.1 (List.mem_map.2 ⟨x, hx, rfl⟩)
  have hks := ok.kids x hx
  have few := ok.wf.few
  have most := ok.wf.most
  have h0 := h.ac (StoreQ.eq hs)
  obtain ⟨a, c, hvk, hl0, hnc, hcm⟩ := h0.rowForm x.vk
  refine F66.calls (by simp) ?_
  unfold F66.code
  by_cases c1 : (x.d.i.path : Int) = 1
  · have hr : delF s x.d = (s, 0, 81) := by unfold delF; rw [if_pos (by omega)]
    rw [hr]
    simp -dsimp -implicitDefEqProofs (disch := omega) only [go_sem, reqD_of, dec_t, dec_f, wrap_i64, wrap_u32, wrap_u64, wrap_u8, h0.cl x.n, c1]
    exact ⟨y, ok, h0.ac (StoreQ.eq hs).symm, rfl⟩
  by_cases c2 : (0 : Int) < (x.ks.length : Int)
  · have hr : delF s x.d = (s, 0, 85) := by unfold delF; rw [if_neg (by omega), if_pos (by rw [← hks]; omega)]
    rw [hr]
    simp -dsimp -implicitDefEqProofs (disch := omega) only [go_sem, reqD_of, dec_t, dec_f, wrap_i64, wrap_u32, wrap_u64, wrap_u8, h0.cl x.n, c1, hvk, c2]
    exact ⟨y, ok, h0.ac (StoreQ.eq hs).symm, rfl⟩
  have h1 : x.d.i.path ≠ 1 := by omega
  have hr : delF s x.d = ({ s with L := dropN s.L x.d.i.path }, x.d.i.path, 0) := by unfold delF; rw [if_neg h1, if_neg (by rw [← hks]; omega)]
  rw [hr] at hw ⊢
  obtain ⟨hup, d, hfd, _⟩ := ok.wf.up _ hdm h1
  obtain ⟨Y1, z, Y2, hy, rfl, hzy, hlz⟩ := ok.some hfd
  have hzp := (find_some hfd).2
  have hzx : z ∈ X1 ++ X2 := by
    rw [hs] at hzy
    rcases List.mem_append.1 hzy with h | h
    · simp [h]
    · rcases List.mem_cons.1 h with h | h
      · subst h; omega
      · simp [h]
  obtain ⟨Z1, Z2, hz⟩ := List.append_of_mem hzx
  have h2 : St w0 (NodeB x.n 0 x.d.i x.vk x.vb * (RowU x.vk x.ks * (BlksP x.vb x.P * (NodeB z.n 0 z.d.i z.vk z.vb * (RowU z.vk z.ks * (BlksP z.vb z.P * (StoreR b st rc s y (y.X.map kv) (Z1 ++ Z2) * A))))))) w := by
    have e1 : starL nodeP (X1 ++ X2) = NodeB z.n 0 z.d.i z.vk z.vb * (RowU z.vk z.ks * BlksP z.vb z.P) * starL nodeP (Z1 ++ Z2) := by
      rw [hz, starL_split]; rfl
    refine h0.ac ?_
    simp only [StoreR]
    rw [e1]
    ac_rfl
  simp -dsimp -implicitDefEqProofs (disch := omega) only [go_sem, reqD_of, dec_t, dec_f, wrap_i64, wrap_u32, wrap_u64, wrap_u8, h2.cl x.n, c1, hvk, c2, h2.drew.cl x.n, h2.drew.cl b]
  refine h2.drew.lkH (b := y.N) (x := (x.d.i.parent : Int)) Tryd.underlying93 lawU zero_ptr ?_
  rw [hlz]
  simp -dsimp -implicitDefEqProofs (disch := omega) only [go_sem, reqD_of, dec_t, dec_f, wrap_i64, wrap_u32, wrap_u64, wrap_u8, lkV, h2.drew.cl x.n, h2.drew.cl b, h2.drew.cl z.n]
  have hzks := ok.kids z hzy
  have hzl := kids_len s.L z.d.i.path
  have h3 : St w0 (RowU z.vk z.ks * (NodeB x.n 0 x.d.i x.vk x.vb * (NodeB z.n 0 z.d.i z.vk z.vb * (BlksP z.vb z.P * (StoreR b st rc s y (y.X.map kv) (Z1 ++ Z2) * A))))) w.drew := by
    have := h2.drew
    refine St.right (A := RowU x.vk x.ks * BlksP x.vb x.P) (this.ac ?_)
    ac_rfl
  refine (without_any (l := z.ks) h3 (by rw [hzks]; exact kids_rise ok.wf _) (by rw [hzks]; omega)).mono ?_
  rintro e w4 ⟨v4, h4, rfl⟩
  obtain ⟨a4, c4, rfl, _⟩ := h4.rowForm v4
  simp -dsimp -implicitDefEqProofs (disch := omega) only [go_sem, reqD_of, dec_t, dec_f, wrap_i64, wrap_u32, wrap_u64, wrap_u8, h4.cl z.n]
  refine h4.sto (b := z.n) (by simp) rfl fun w5 h5 => ?_
  simp only [List.setIfInBounds_toArray, List.set_cons_succ, List.set_cons_zero] at h5
  simp -dsimp -implicitDefEqProofs (disch := omega) only [go_sem, reqD_of, dec_t, dec_f, wrap_i64, wrap_u32, wrap_u64, wrap_u8, h5.cl b]
  obtain ⟨zk, hzk⟩ : ∃ zk, zk = z.ks.filter fun k => !(k == x.d.i.path) := ⟨_, rfl⟩
  rw [← hzk] at h5
  have h6 : St w0 (RowU y.ov (s.L.map (·.i.path)) * (RowU (.slice a4 zk.length c4) zk * (NodeB x.n 0 x.d.i x.vk x.vb * (NodeB z.n 0 z.d.i (.slice a4 zk.length c4) z.vb * (BlksP z.vb z.P * (StoreB b st rc s y * (MapP encU y.N (y.X.map kv) * (MapP encK y.C y.cl * (starL nodeP (Z1 ++ Z2) * A))))))))) w5 := by
    refine St.ac (A := RowU (.slice a4 zk.length c4) zk * (NodeB x.n 0 x.d.i x.vk x.vb * (NodeB z.n 0 z.d.i (.slice a4 zk.length c4) z.vb * (BlksP z.vb z.P * (StoreR b st rc s y (y.X.map kv) (Z1 ++ Z2) * A))))) h5 ?_
    simp only [StoreR]
    ac_rfl
  refine (without_any (l := s.L.map (·.i.path)) h6 (rise_paths.1 ok.wf.rise) (by simp; omega)).mono ?_
  rintro e w7 ⟨v7, h7, rfl⟩
  obtain ⟨a7, c7, rfl, _⟩ := h7.rowForm v7
  simp -dsimp -implicitDefEqProofs (disch := omega) only [go_sem, reqD_of, dec_t, dec_f, wrap_i64, wrap_u32, wrap_u64, wrap_u8, h7.cl b]
  refine h7.sto (b := b) (by simp) rfl fun w8 h8 => ?_
  simp only [List.setIfInBounds_toArray, List.set_cons_succ, List.set_cons_zero] at h8
  simp -dsimp -implicitDefEqProofs (disch := omega) only [go_sem, reqD_of, dec_t, dec_f, wrap_i64, wrap_u32, wrap_u64, wrap_u8, h8.drew.cl b, h8.drew.cl x.n]
  refine onV_of (v := encK (x.d.i.parent, x.d.i.name)) (by kernel_rfl) ?_
  simp -dsimp -implicitDefEqProofs (disch := omega) only [go_sem, reqD_of, dec_t, dec_f, wrap_i64, wrap_u32, wrap_u64, wrap_u8, h8.drew.cl b, h8.drew.cl x.n]
  have hcl := h8.mapNodup y.C
  refine h8.drew.delH (b := y.C) (x := ((x.d.i.parent, x.d.i.name) : KD)) Tryd.underlying94 lawK fun w9 h9 => ?_
  simp -dsimp -implicitDefEqProofs (disch := omega) only [go_sem, reqD_of, dec_t, dec_f, wrap_i64, wrap_u32, wrap_u64, wrap_u8, h9.cl b, h9.cl x.n]
  refine h9.delH (b := y.N) (x := (x.d.i.path : Int)) Tryd.underlying93 lawU fun w10 h10 => ?_
  simp -dsimp -implicitDefEqProofs (disch := omega) only [go_sem, reqD_of, dec_t, dec_f, wrap_i64, wrap_u32, wrap_u64, wrap_u8, h10.cl b]
  have hnk : (x.d.i.path : Int) ∉ (X1.map kv).map (·.1) := by
    have := ok.keys
    rw [hs, List.map_append, List.map_cons, List.map_append, List.map_cons, List.nodup_append] at this
    intro hm
    exact this.2.2 _ hm _ List.mem_cons_self rfl
  obtain ⟨z', hz'⟩ : ∃ z' : NN, z' = { z with vk := .slice a4 zk.length c4, ks := z.ks.filter fun k => !(k == x.d.i.path) } := ⟨_, rfl⟩
  have e1 : del (x.d.i.path : Int) (y.X.map kv) = (Z1 ++ z' :: Z2).map kv := by
    have e2 : y.X.map kv = X1.map kv ++ ((x.d.i.path : Int), .pointer (some ⟨x.n, 0, none⟩)) :: X2.map kv := by rw [hs, List.map_append, List.map_cons]; rfl
    rw [e2, del_mid hnk, ← List.map_append, hz, hz']
    simp [kv]
  obtain ⟨of, hof⟩ : ∃ of, of = (s.L.map (·.i.path)).filter fun k => !(k == x.d.i.path) := ⟨_, rfl⟩
  rw [← hof] at h10
  refine ⟨_, storeOk_drop (vk' := .slice a4 zk.length c4) (ov' := .slice a7 of.length c7) ok hs hz hzp h1 hcl hw, ?_, rfl⟩
  rw [← hz']
  obtain ⟨Mc, hMc⟩ : ∃ Mc, Mc = MapP encK y.C (del ((x.d.i.parent, x.d.i.name) : KD) y.cl) := ⟨_, rfl⟩
  obtain ⟨Mn, hMn⟩ : ∃ Mn, Mn = MapP encU y.N (del (x.d.i.path : Int) (y.X.map kv)) := ⟨_, rfl⟩
  have h11 : St w0 (RowU (.slice a7 of.length c7) of * (RowU (.slice a4 zk.length c4) zk * (NodeB x.n 0 x.d.i x.vk x.vb * (NodeB z.n 0 z.d.i (.slice a4 zk.length c4) z.vb * (BlksP z.vb z.P * (Blk b (.cells (storeC st rc s.most s.next (.map (some y.N)) (.slice a7 of.length c7) (.map (some y.C))) 101 (0, 0)) * (Mn * (Mc * (starL nodeP (Z1 ++ Z2) * A))))))))) w10 := by
    rw [hMc, hMn]; exact h10
  have e3 : nodeP z' = NodeB z.n 0 z.d.i (.slice a4 zk.length c4) z.vb * (RowU (.slice a4 zk.length c4) zk * BlksP z.vb z.P) := by rw [hz', hzk]; rfl
  show St w0 (Blk b (.cells (storeC st rc s.most s.next (.map (some y.N)) (.slice a7 of.length c7) (.map (some y.C))) 101 (0, 0)) * (MapP encU y.N ((Z1 ++ z' :: Z2).map kv) * (MapP encK y.C (del ((x.d.i.parent, x.d.i.name) : KD) y.cl) * (RowU (.slice a7 of.length c7) ((dropN s.L x.d.i.path).map (·.i.path)) * starL nodeP (Z1 ++ z' :: Z2)))) * A) w10
  rw [← hMc, ← e1, ← hMn, drop_paths, ← hof, starL_split, e3]
  refine St.right (A := NodeB x.n 0 x.d.i x.vk x.vb) (h11.ac ?_)
  ac_rfl
end
end
end Go.Proofs.YtijnmokpihhhcaaDoor

namespace Go.Proofs.YtijnmokpihhhcaaDoor
open Go
set_option linter.unusedVariables false
set_option linter.unusedSimpArgs false
set_option maxRecDepth 100000

/-- A node by another name. -/
def calledN (n : NodeD) (nm : List UInt8) : NodeD := ⟨{ n.i with name := nm }, n.b⟩

theorem storeOk_call {s : SD} {y : SX} (ok : StoreOk s y) {X1 X2 : List NN} {x : NN} {nm : List UInt8} (hs : y.X = X1 ++ x :: X2) (h1 : x.d.i.path ≠ 1)
    (hcl : (y.cl.map (·.1)).Nodup) (hw : Wf { s with L := updN s.L x.d.i.path fun _ => calledN x.d nm }) :
    StoreOk { s with L := updN s.L x.d.i.path fun _ => calledN x.d nm } { y with X := X1 ++ { x with d := calledN x.d nm } :: X2, cl := upd (x.d.i.parent, nm) (u64V x.d.i.path) (del (x.d.i.parent, x.d.i.name) y.cl) } := by
  have k : Keeps x.d (calledN x.d nm) := ⟨rfl, rfl, rfl⟩
  have hx : x ∈ y.X := by rw [hs]; simp
  have hd : x.d ∈ s.L := ok.perm.mem_iff.1 (List.mem_map.2 ⟨x, hx, rfl⟩)
  obtain ⟨p1, p2, p3⟩ := upd_parts (x' := { x with d := calledN x.d nm }) ok hs rfl k rfl (ok.bytes x hx)
  refine ⟨hw, p1, p2, p3, fun dir m => ?_⟩
  show lk (dir, m) (upd (x.d.i.parent, nm) (u64V x.d.i.path) (del (x.d.i.parent, x.d.i.name) y.cl)) = (childF (updN s.L x.d.i.path fun _ => calledN x.d nm) dir m).map u64V
  have hd' : calledN x.d nm ∈ updN s.L x.d.i.path fun _ => calledN x.d nm := List.mem_map.2 ⟨x.d, hd, by rw [if_pos rfl]⟩
  rw [lk_upd, lk_del hcl]
  by_cases e1 : (dir, m) = (x.d.i.parent, nm)
  · rw [if_pos e1]
    simp only [Prod.mk.injEq] at e1
    obtain ⟨rfl, rfl⟩ := e1
    have := child_of hw hd' h1
    change childF (updN s.L x.d.i.path fun _ => calledN x.d m) x.d.i.parent m = some x.d.i.path at this
    rw [this]; rfl
  rw [if_neg e1]
  by_cases e2 : (dir, m) = (x.d.i.parent, x.d.i.name)
  · rw [if_pos e2]
    simp only [Prod.mk.injEq] at e2
    obtain ⟨rfl, rfl⟩ := e2
    have : childF (updN s.L x.d.i.path fun _ => calledN x.d nm) x.d.i.parent x.d.i.name = none := by
      cases hc : childF (updN s.L x.d.i.path fun _ => calledN x.d nm) x.d.i.parent x.d.i.name with
      | none => rfl
      | some q =>
        obtain ⟨u, hu, rfl, hk, hn⟩ := child_some hc
        rcases upd_mem hu with ⟨rfl, _⟩ | ⟨hu1, hu2⟩
        · exact absurd (by show _ = (_, nm); rw [← hn]; rfl) e1
        · obtain ⟨k1, k2⟩ := (isKid_iff ok.wf hu1).1 hk
          exact absurd (ok.wf.one u hu1 x.d hd k2 h1 k1 hn) hu2
    rw [this]; rfl
  rw [if_neg e2, ok.child]
  congr 1
  unfold childF updN
  refine (find_map_congr fun u hu => ?_).symm
  rcases upd_at (d' := calledN x.d nm) ok.wf.rise hd rfl hu with ⟨rfl, e⟩ | e
  · rw [e]
    refine ⟨?_, rfl⟩
    have a1 : (isKid dir (calledN x.d nm) && (calledN x.d nm).i.name == m) = false := by
      cases hh : isKid dir (calledN x.d nm) && (calledN x.d nm).i.name == m
      · rfl
      · simp only [Bool.and_eq_true, beq_iff_eq, isKid] at hh
        exact absurd (by rw [← hh.1.1, ← hh.2]; rfl) e1
    have a2 : (isKid dir x.d && x.d.i.name == m) = false := by
      cases hh : isKid dir x.d && x.d.i.name == m
      · rfl
      · simp only [Bool.and_eq_true, beq_iff_eq, isKid] at hh
        exact absurd (by rw [← hh.1.1, ← hh.2]) e2
    rw [a1, a2]
  · rw [e]; exact ⟨rfl, rfl⟩
end Go.Proofs.YtijnmokpihhhcaaDoor

namespace Go.Proofs.YtijnmokpihhhcaaDoor
open Go
set_option linter.unusedVariables false
set_option linter.unusedSimpArgs false
set_option maxRecDepth 100000

section
variable {w0 w : World} {A : HP} {b B K : Nat} {s : SD} {y : SX} {X1 X2 : List NN} {x : NN} {t : Inf} {st rc : Int} {nm : List UInt8} {e : FA} {R : Ending → World → Prop}

section
attribute [local go_sem] F67.t10_eq
theorem call_t10 (ok : StoreOk s y) (hs : y.X = X1 ++ x :: X2) (h1 : x.d.i.path ≠ 1) (hw : Wf { s with L := updN s.L x.d.i.path fun _ => calledN x.d nm })
    (h : St w0 (Blk K (.cells [.int .u64 (x.d.i.parent : Int), .string (strOf nm)].toArray 121 (0, 0)) * (NodeB x.n 0 x.d.i x.vk x.vb * (RowU x.vk x.ks * (BlksP x.vb x.P * (StoreR b st rc s y (y.X.map kv) (X1 ++ X2) * A))))) w)
    (hd : e.ds = []) (e0 : e.ρ 0 = .pointer (some ⟨b, 0, none⟩)) (e1 : e.ρ 1 = .pointer (some ⟨x.n, 0, none⟩)) (e2 : e.ρ 2 = .string (strOf nm)) (e8 : e.ρ 8 = .int .u64 x.d.i.path) (e9 : e.ρ 9 = .pointer (some ⟨K, 0, none⟩)) :
    cwE Tryd.prog F67.t10 (fnP Tryd.prog #[.tmp 6, .tmp 7] (TurnR w0 A b st rc ({ s with L := updN s.L x.d.i.path fun _ => calledN x.d nm }, x.d.i.path, 0))) e w := by
  rw [F67.t10_eq]
  simp -dsimp -implicitDefEqProofs (disch := omega) only [go_sem, reqD_of, dec_t, dec_f, wrap_i64, wrap_u32, wrap_u64, wrap_u8, hd, e0, e1, e2, e8, e9, h.drew.cl b, h.drew.cl x.n]
  refine onV_of (v := encK (x.d.i.parent, x.d.i.name)) (by kernel_rfl) ?_
  simp -dsimp -implicitDefEqProofs (disch := omega) only [go_sem, reqD_of, dec_t, dec_f, wrap_i64, wrap_u32, wrap_u64, wrap_u8, hd, e0, e1, e2, e8, e9, h.drew.cl b, h.drew.cl x.n]
  have hcl := h.mapNodup y.C
  refine h.drew.delH (b := y.C) (x := ((x.d.i.parent, x.d.i.name) : KD)) Tryd.underlying94 lawK fun w2 h2 => ?_
  have hK := h2.drew.rowH K 2 rfl
  have hK2 := h2.rowH K 2 rfl
  simp -dsimp -implicitDefEqProofs (disch := omega) only [go_sem, reqD_of, dec_t, dec_f, wrap_i64, wrap_u32, wrap_u64, wrap_u8, hd, e0, e1, e2, e8, e9, h2.cl b, h2.cl x.n, hK2, h2.drew.cl b, hK]
  refine h2.drew.updH (b := y.C) (x := ((x.d.i.parent, nm) : KD)) Tryd.underlying94 lawK fun w3 h3 => ?_
  have hK3 := h3.rowH K 2 rfl
  simp -dsimp -implicitDefEqProofs (disch := omega) only [go_sem, reqD_of, dec_t, dec_f, wrap_i64, wrap_u32, wrap_u64, wrap_u8, hd, e0, e1, e2, e8, e9, h3.cl b, h3.cl x.n, hK3]
  refine h3.sto (b := x.n) (by simp) rfl fun w4 h4 => ?_
  simp only [List.setIfInBounds_toArray, List.set_cons_succ, List.set_cons_zero] at h4
  simp -dsimp -implicitDefEqProofs (disch := omega) only [go_sem, reqD_of, dec_t, dec_f, wrap_i64, wrap_u32, wrap_u64, wrap_u8, hd, e0, e1, e2, e8, e9]
  refine ⟨_, storeOk_call ok hs h1 hcl hw, ?_, rfl⟩
  obtain ⟨x', hx'⟩ : ∃ x' : NN, x' = { x with d := calledN x.d nm } := ⟨_, rfl⟩
  rw [← hx']
  obtain ⟨Mc, hMc⟩ : ∃ Mc, Mc = MapP encK y.C (upd ((x.d.i.parent, nm) : KD) (u64V x.d.i.path) (del ((x.d.i.parent, x.d.i.name) : KD) y.cl)) := ⟨_, rfl⟩
  have h5 : St w0 (Blk K (.cells [.int .u64 (x.d.i.parent : Int), .string (strOf nm)].toArray 121 (0, 0)) * (NodeB x.n 0 (calledN x.d nm).i x.vk x.vb * (RowU x.vk x.ks * (BlksP x.vb x.P * ((StoreB b st rc s y * (MapP encU y.N (y.X.map kv) * (Mc * (RowU y.ov (s.L.map (·.i.path)) * starL nodeP (X1 ++ X2))))) * A))))) w4 := by
    rw [hMc]; exact h4
  have q1 : nodeP x' = NodeB x.n 0 (calledN x.d nm).i x.vk x.vb * (RowU x.vk x.ks * BlksP x.vb x.P) := by rw [hx']; rfl
  have q2 : (X1 ++ x' :: X2).map kv = y.X.map kv := by rw [hs, hx']; simp [kv, calledN]
  have q3 : (updN s.L x.d.i.path fun _ => calledN x.d nm).map (·.i.path) = s.L.map (·.i.path) := upd_paths rfl
  show St w0 (StoreB b st rc s y * (MapP encU y.N ((X1 ++ x' :: X2).map kv) * (MapP encK y.C (upd ((x.d.i.parent, nm) : KD) (u64V x.d.i.path) (del ((x.d.i.parent, x.d.i.name) : KD) y.cl)) * (RowU y.ov ((updN s.L x.d.i.path fun _ => calledN x.d nm).map (·.i.path)) * starL nodeP (X1 ++ x' :: X2)))) * A) w4
  rw [← hMc, q2, q3, starL_split, q1]
  exact (h5.right).ac (by ac_rfl)

end

theorem call_any [Gives A Tabs] (ok : StoreOk s y) (hs : y.X = X1 ++ x :: X2) (hnm : nm.length ≤ 4294967296) (hw : Wf (callF s x.d nm).1) (h : St w0 (StoreQ b st rc s y * A) w) :
    Calls Tryd.prog 67 #[.pointer (some ⟨b, 0, none⟩), .pointer (some ⟨x.n, 0, none⟩), .string (strOf nm)] w (TurnR w0 A b st rc (callF s x.d nm)) := by
  have hx : x ∈ y.X := by rw [hs]; simp
  have hdm : x.d ∈ s.L := ok.perm.mem_iff.1 (List.mem_map.2 ⟨x, hx, rfl⟩)
  have h0 := h.ac (StoreQ.eq hs)
  refine F67.calls (by simp) ?_
  unfold F67.code
  simp -dsimp -implicitDefEqProofs (disch := omega) only [go_sem, reqD_of, dec_t, dec_f, wrap_i64, wrap_u32, wrap_u64, wrap_u8, h0.cl x.n]
  refine onV_of (v := encK (x.d.i.parent, nm)) (by kernel_rfl) ?_
  simp -dsimp -implicitDefEqProofs (disch := omega) only [go_sem, reqD_of, dec_t, dec_f, wrap_i64, wrap_u32, wrap_u64, wrap_u8]
  refine h0.new fun K w1 h1 => ?_
  simp -dsimp -implicitDefEqProofs (disch := omega) only [go_sem, reqD_of, dec_t, dec_f, wrap_i64, wrap_u32, wrap_u64, wrap_u8]
  simp only [encK]
  refine h1.stoAll (b := K) (cs := [.int .u64 (x.d.i.parent : Int), .string (strOf nm)]) rfl rfl (by intro v hv; simp at hv; rcases hv with rfl | rfl <;> rfl) fun w2 h2 => ?_
  have hK := h2.drew.rowH K 2 rfl
  simp -dsimp -implicitDefEqProofs (disch := omega) only [go_sem, reqD_of, dec_t, dec_f, wrap_i64, wrap_u32, wrap_u64, wrap_u8, h2.drew.cl b, hK]
  refine h2.drew.lkH (b := y.C) (x := ((x.d.i.parent, nm) : KD)) Tryd.underlying94 lawK (z := .int .u64 0) (by kernel_rfl) ?_
  rw [ok.child]
  have hl : lkV (.int .u64 0) true ((childF s.L x.d.i.parent nm).map u64V) = .tuple #[u64V ((childF s.L x.d.i.parent nm).getD 0), .bool (childF s.L x.d.i.parent nm).isSome] := lkV_get (f := u64V) (d := 0) _
  rw [hl]
  have h3 : St w0 (Blk K (.cells [.int .u64 (x.d.i.parent : Int), .string (strOf nm)].toArray 121 (0, 0)) * (NodeB x.n 0 x.d.i x.vk x.vb * (RowU x.vk x.ks * (BlksP x.vb x.P * (StoreR b st rc s y (y.X.map kv) (X1 ++ X2) * A))))) w2.drew := h2.drew
  have err : ∀ (w' : World) (k : Nat), St w0 (Blk K (.cells [.int .u64 (x.d.i.parent : Int), .string (strOf nm)].toArray 121 (0, 0)) * (NodeB x.n 0 x.d.i x.vk x.vb * (RowU x.vk x.ks * (BlksP x.vb x.P * (StoreR b st rc s y (y.X.map kv) (X1 ++ X2) * A))))) w' →
      callF s x.d nm = (s, 0, k) → TurnR w0 A b st rc (callF s x.d nm) (.returned (.tuple #[.int .u64 0, .int .i64 k])) w' := fun w' k h hm => by
    rw [hm]
    exact ⟨y, ok, h.right.ac (StoreQ.eq hs).symm, rfl⟩
  by_cases c1 : (x.d.i.path : Int) = 1
  · simp -dsimp -implicitDefEqProofs (disch := omega) only [go_sem, reqD_of, dec_t, dec_f, wrap_i64, wrap_u32, wrap_u64, wrap_u8, c1]
    exact err _ 81 h3 (by unfold callF; rw [if_pos (by omega)])
  have h1' : x.d.i.path ≠ 1 := by omega
  simp -dsimp -implicitDefEqProofs (disch := omega) only [go_sem, reqD_of, dec_t, dec_f, wrap_i64, wrap_u32, wrap_u64, wrap_u8, c1]
  refine (check_any h3 (Nat.le_trans hnm (by omega))).mono ?_
  rintro e w4 ⟨h4, rfl⟩
  cases g5 : okName nm
  case false =>
    simp only [Bool.false_eq_true, if_false]
    simp -dsimp -implicitDefEqProofs (disch := omega) only [go_sem, reqD_of, dec_t, dec_f, wrap_i64, wrap_u32, wrap_u64, wrap_u8]
    exact err _ 50 h4 (by unfold callF; rw [if_neg h1', if_pos (by simp [g5])])
  simp only [if_true]
  have good : ∀ (hq : childF s.L x.d.i.parent nm = none ∨ childF s.L x.d.i.parent nm = some x.d.i.path), callF s x.d nm = ({ s with L := updN s.L x.d.i.path fun _ => calledN x.d nm }, x.d.i.path, 0) := fun hq => by
    have e : (updN s.L x.d.i.path fun n => ⟨{ n.i with name := nm }, n.b⟩) = updN s.L x.d.i.path fun _ => calledN x.d nm := upd_fun ok.wf.rise hdm (fun n => ⟨{ n.i with name := nm }, n.b⟩)
    unfold callF
    rw [if_neg h1', if_neg (by simp [g5])]
    rcases hq with hq | hq
    · rw [hq]; simp only; rw [e]
    · rw [hq]; simp only [if_true]; rw [e]
  cases hc : childF s.L x.d.i.parent nm with
  | none =>
    rw [good (.inl hc)] at hw ⊢
    simp only [Option.isSome_none, Option.getD_none]
    simp -dsimp -implicitDefEqProofs (disch := omega) only [go_sem, reqD_of, dec_t, dec_f, wrap_i64, wrap_u32, wrap_u64, wrap_u8, c1]
    exact call_t10 ok hs h1' hw h4 (by simp -dsimp -implicitDefEqProofs only [go_sem]) (by simp -dsimp -implicitDefEqProofs only [go_sem]) (by simp -dsimp -implicitDefEqProofs only [go_sem]) (by simp -dsimp -implicitDefEqProofs only [go_sem]) (by simp -dsimp -implicitDefEqProofs only [go_sem]) (by simp -dsimp -implicitDefEqProofs only [go_sem])
  | some q =>
    simp only [Option.isSome_some, Option.getD_some]
    by_cases c2 : (q : Int) = (x.d.i.path : Int)
    · have : q = x.d.i.path := by omega
      subst this
      rw [good (.inr hc)] at hw ⊢
      simp -dsimp -implicitDefEqProofs (disch := omega) only [go_sem, reqD_of, dec_t, dec_f, wrap_i64, wrap_u32, wrap_u64, wrap_u8, c1]
      exact call_t10 ok hs h1' hw h4 (by simp -dsimp -implicitDefEqProofs only [go_sem]) (by simp -dsimp -implicitDefEqProofs only [go_sem]) (by simp -dsimp -implicitDefEqProofs only [go_sem]) (by simp -dsimp -implicitDefEqProofs only [go_sem]) (by simp -dsimp -implicitDefEqProofs only [go_sem]) (by simp -dsimp -implicitDefEqProofs only [go_sem])
    · simp -dsimp -implicitDefEqProofs (disch := omega) only [go_sem, reqD_of, dec_t, dec_f, wrap_i64, wrap_u32, wrap_u64, wrap_u8, c1, c2]
      exact err _ 82 h4 (by unfold callF; rw [if_neg h1', if_neg (by simp [g5]), hc]; simp only; rw [if_neg (by omega)])
end
end Go.Proofs.YtijnmokpihhhcaaDoor

namespace Go.Proofs.YtijnmokpihhhcaaDoor
open Go
set_option linter.unusedVariables false
set_option linter.unusedSimpArgs false
set_option maxRecDepth 100000

section
variable {w0 w : World} {A : HP} {b B K : Nat} {s : SD} {y : SX} {X1 X2 : List NN} {x : NN} {o : OpD} {vd : Value} {e : FA} {R : Ending → World → Prop}

theorem doF_turn {d : NodeD} (hk : 1 ≤ o.kind ∧ o.kind ≤ 3) (hf : findN s.L o.path = some d) : doF s o = if o.kind = 1 then makeF s d o.node else if o.kind = 2 then delF s d else callF s d o.name := by
  unfold doF
  rw [if_neg (by omega), hf]
  simp only
  split
  · rfl
  split
  · rfl
  · rw [if_pos (by omega)]

section
attribute [local go_sem] F40.t11_eq F40.t6_eq
theorem turn_any [Gives A Tabs] (hin : OpIn o) (hk : 1 ≤ o.kind ∧ o.kind ≤ 3) (hnext : s.next < 9223372036854775808) (h : St w0 (StoreP b 0 0 s * A) w) :
    Calls Tryd.prog 40 #[.pointer (some ⟨b, 0, none⟩), .agg (opL o vd).toArray] w fun e w' => St w0 (StoreP b 0 0 (doF s o).1 * A) w' ∧ e = .returned (.tuple #[.int .u64 (doF s o).2.1, .int .i64 (doF s o).2.2]) := by
  obtain ⟨y, ok, h⟩ := h.storeO
  have hwf := do_wf ok.wf hin.ok
  refine calls_of_cwM (types := Tryd.prog.types) follows Tryd.func40 F40.code rfl (by kernel_rfl) (by show 2 ≤ 48; decide) ?_
  show cwE _ _ (fnM _ #[.tmp 4, .tmp 5] _) _ _
  unfold F40.code
  simp -dsimp -implicitDefEqProofs (disch := omega) only [go_sem, reqD_of, dec_t, dec_f, wrap_i64, wrap_u32, wrap_u64, wrap_u8]
  refine h.new fun B w1 h1 => ?_
  have h1 : St w0 (StoreQ b 0 0 s y * (opB B o vd * A)) w1 := h1.sw2
  simp -dsimp -implicitDefEqProofs (disch := omega) only [go_sem, reqD_of, dec_t, dec_f, wrap_i64, wrap_u32, wrap_u64, wrap_u8]
  refine (wlockS h1).mono ?_
  rintro e w2 ⟨h2, rfl⟩
  simp -dsimp -implicitDefEqProofs (disch := omega) only [go_sem, reqD_of, dec_t, dec_f, wrap_i64, wrap_u32, wrap_u64, wrap_u8]
  refine deferF_of ?_
  simp -dsimp -implicitDefEqProofs (disch := omega) only [go_sem, reqD_of, dec_t, dec_f, wrap_i64, wrap_u32, wrap_u64, wrap_u8, h2.drew.cl b, h2.drew.cl B]
  refine h2.drew.lkH (b := y.N) (x := (o.path : Int)) Tryd.underlying93 lawU zero_ptr ?_
  have fin : ∀ (y' : SX) (r : SD × Nat × Nat) (w' : World) (e : FA), StoreOk r.1 y' → St w0 (StoreQ b 1 (-1073741824) r.1 y' * (opB B o vd * A)) w' → doF s o = r → e.ρ 4 = .int .u64 r.2.1 → e.ρ 5 = .int .i64 r.2.2 →
      leaveD Tryd.prog [{ target := .fn (.func 53) #[], args := #[.pointer (some ⟨b, 0, none⟩)] }] .returning w' (endM Tryd.prog #[.tmp 4, .tmp 5] e fun e w' => St w0 (StoreP b 0 0 (doF s o).1 * A) w' ∧ e = .returned (.tuple #[.int .u64 (doF s o).2.1, .int .i64 (doF s o).2.2])) := fun y' r w' e ok' h' hr e4 e5 => by
    refine wunlockS h' fun w7 h7 => ?_
    refine endT2 ?_
    rw [e4, e5, hr]
    exact ⟨h7.drop2.ent (Ent.sep (StoreP.shut ok') (Ent.rfl' A)), rfl⟩
  cases hf : findN s.L o.path with
  | none =>
    rw [ok.none hf]
    have hr : doF s o = (s, 0, 80) := by unfold doF; rw [if_neg (by omega), hf]
    simp -dsimp -implicitDefEqProofs (disch := omega) only [go_sem, reqD_of, dec_t, dec_f, wrap_i64, wrap_u32, wrap_u64, wrap_u8, lkV]
    exact fin y (s, 0, 80) _ _ ok h2.drew hr (by simp -dsimp -implicitDefEqProofs only [go_sem]) (by simp -dsimp -implicitDefEqProofs only [go_sem])
  | some d =>
    obtain ⟨X1, x, X2, hs, rfl, hx, hl⟩ := ok.some hf
    rw [hl]
    have hr := doF_turn (s := s) (o := o) hk hf
    have h3 := h2.drew
    rcases Nat.lt_or_ge o.kind 2 with hk1 | hk1
    · have k1 : (o.kind : Int) = 1 := by omega
      rw [if_pos (by omega)] at hr
      have hrow := h3.rowAtH B 4 13 (by simp)
      simp only [List.drop_succ_cons, List.drop_zero, List.take_succ_cons, List.take_zero] at hrow
      simp -dsimp -implicitDefEqProofs (disch := omega) only [go_sem, reqD_of, dec_t, dec_f, wrap_i64, wrap_u32, wrap_u64, wrap_u8, lkV, h3.cl B, k1, hrow]
      rw [hr] at hwf
      refine (makes_any (t := o.node) ok hs ⟨hin.ok.mode, hin.nname, hin.uid, hin.gid, hin.muid⟩ hnext hwf h3).mono ?_
      rintro e w5 ⟨y', ok', h5, rfl⟩
      simp -dsimp -implicitDefEqProofs (disch := omega) only [go_sem, reqD_of, dec_t, dec_f, wrap_i64, wrap_u32, wrap_u64, wrap_u8]
      exact fin y' _ _ _ ok' h5 hr (by simp -dsimp -implicitDefEqProofs only [go_sem]) (by simp -dsimp -implicitDefEqProofs only [go_sem])
    have k1 : ¬ (o.kind : Int) = 1 := by omega
    rw [if_neg (by omega)] at hr
    rcases Nat.lt_or_ge o.kind 3 with hk2 | hk2
    · have k2 : (o.kind : Int) = 2 := by omega
      rw [if_pos (by omega)] at hr
      simp -dsimp -implicitDefEqProofs (disch := omega) only [go_sem, reqD_of, dec_t, dec_f, wrap_i64, wrap_u32, wrap_u64, wrap_u8, lkV, h3.cl B, k1, k2]
      rw [hr] at hwf
      refine (drop_any ok hs hwf h3).mono ?_
      rintro e w5 ⟨y', ok', h5, rfl⟩
      simp -dsimp -implicitDefEqProofs (disch := omega) only [go_sem, reqD_of, dec_t, dec_f, wrap_i64, wrap_u32, wrap_u64, wrap_u8]
      exact fin y' _ _ _ ok' h5 hr (by simp -dsimp -implicitDefEqProofs only [go_sem]) (by simp -dsimp -implicitDefEqProofs only [go_sem])
    have k2 : ¬ (o.kind : Int) = 2 := by omega
    rw [if_neg (by omega)] at hr
    simp -dsimp -implicitDefEqProofs (disch := omega) only [go_sem, reqD_of, dec_t, dec_f, wrap_i64, wrap_u32, wrap_u64, wrap_u8, lkV, h3.cl B, k1, k2]
    rw [hr] at hwf
    refine (call_any ok hs hin.name hwf h3).mono ?_
    rintro e w5 ⟨y', ok', h5, rfl⟩
    simp -dsimp -implicitDefEqProofs (disch := omega) only [go_sem, reqD_of, dec_t, dec_f, wrap_i64, wrap_u32, wrap_u64, wrap_u8]
    exact fin y' _ _ _ ok' h5 hr (by simp -dsimp -implicitDefEqProofs only [go_sem]) (by simp -dsimp -implicitDefEqProofs only [go_sem])

end
section
attribute [local go_sem] F20.t2_eq F20.t6_eq F20.t30_eq F20.t28_eq F20.t11_eq
theorem do_t11 [Gives A Tabs] [Gives A (RdB vd o.data)] (hin : OpIn o) (hk : 4 ≤ o.kind ∧ o.kind ≤ 7) (h : St w0 (StoreP b 0 0 s * (opB B o vd * A)) w)
    (hd : e.ds = []) (e0 : e.ρ 0 = .pointer (some ⟨b, 0, none⟩)) (e3 : e.ρ 3 = .pointer (some ⟨B, 0, none⟩))
    (hR : ∀ w', St w0 (StoreP b 0 0 (doF s o).1 * A) w' → R (.returned (.tuple #[.int .u64 (doF s o).2.1, .int .i64 (doF s o).2.2])) w') :
    cwE Tryd.prog F20.t11 (fnM Tryd.prog #[.tmp 4, .tmp 5] R) e w := by
  obtain ⟨y, ok, h⟩ := h.storeO
  rw [F20.t11_eq]
  simp -dsimp -implicitDefEqProofs (disch := omega) only [go_sem, reqD_of, dec_t, dec_f, wrap_i64, wrap_u32, wrap_u64, wrap_u8, hd, e0, e3]
  refine (rlockS h).mono ?_
  rintro e' w1 ⟨h1, rfl⟩
  simp -dsimp -implicitDefEqProofs (disch := omega) only [go_sem, reqD_of, dec_t, dec_f, wrap_i64, wrap_u32, wrap_u64, wrap_u8, hd, e0, e3]
  refine deferF_of ?_
  simp -dsimp -implicitDefEqProofs (disch := omega) only [go_sem, reqD_of, dec_t, dec_f, wrap_i64, wrap_u32, wrap_u64, wrap_u8, hd, e0, e3, h1.drew.cl b, h1.drew.cl B]
  refine h1.drew.lkH (b := y.N) (x := (o.path : Int)) Tryd.underlying93 lawU zero_ptr ?_
  cases hf : findN s.L o.path with
  | none =>
    rw [ok.none hf]
    have hr : doF s o = (s, 0, 80) := by unfold doF; rw [if_neg (by omega), hf]
    rw [hr] at hR
    simp -dsimp -implicitDefEqProofs (disch := omega) only [go_sem, reqD_of, dec_t, dec_f, wrap_i64, wrap_u32, wrap_u64, wrap_u8, lkV, hd, e0, e3]
    refine runlockS h1.drew fun w2 h2 => ?_
    refine endT2 ?_
    have := hR w2 (h2.drop2.ent (Ent.sep (StoreP.shut ok) (Ent.rfl' A)))
    simp -dsimp -implicitDefEqProofs only [go_sem]
    exact this
  | some d =>
    obtain ⟨X1, x, X2, hs, rfl, hx, hl⟩ := ok.some hf
    rw [hl]
    simp -dsimp -implicitDefEqProofs (disch := omega) only [go_sem, reqD_of, dec_t, dec_f, wrap_i64, wrap_u32, wrap_u64, wrap_u8, lkV, hd, e0, e3]
    exact do_t16 (vd := vd) (B := B) hin hk ok hs hf (h1.drew.ac (StoreQ.eq hs)) (by simp -dsimp -implicitDefEqProofs only [go_sem, hd, e0]) (by simp -dsimp -implicitDefEqProofs only [go_sem, e3]) (by simp -dsimp -implicitDefEqProofs only [go_sem]) hR

end
section
attribute [local go_sem] F20.t2_eq F20.t6_eq F20.t30_eq F20.t28_eq F20.t16_eq
theorem do_any [Gives A Tabs] [Gives A (RdB vd o.data)] (hin : OpIn o) (hkind : o.kind < 256) (hnext : s.next < 9223372036854775808) (h : St w0 (StoreP b 0 0 s * A) w) :
    Calls Tryd.prog 20 #[.pointer (some ⟨b, 0, none⟩), .agg (opL o vd).toArray] w fun e w' => St w0 (StoreP b 0 0 (doF s o).1 * A) w' ∧ e = .returned (.tuple #[.int .u64 (doF s o).2.1, .int .i64 (doF s o).2.2]) := by
  refine calls_of_cwM (types := Tryd.prog.types) follows Tryd.func20 F20.code rfl (by kernel_rfl) (by show 2 ≤ 82; decide) ?_
  show cwE _ _ (fnM _ #[.tmp 4, .tmp 5] _) _ _
  unfold F20.code
  simp -dsimp -implicitDefEqProofs (disch := omega) only [go_sem, reqD_of, dec_t, dec_f, wrap_i64, wrap_u32, wrap_u64, wrap_u8]
  refine h.new fun B w1 h1 => ?_
  have h1 : St w0 (StoreP b 0 0 s * (opB B o vd * A)) w1 := h1.sw2
  have hrow := h1.rowH B 20 rfl
  by_cases hk : 1 ≤ o.kind ∧ o.kind ≤ 3
  · have turn : ∀ (R : Ending → World → Prop), (∀ w', St w0 (StoreP b 0 0 (doF s o).1 * A) w' → R (.returned (.tuple #[.int .u64 (doF s o).2.1, .int .i64 (doF s o).2.2])) w') → Calls Tryd.prog 40 #[.pointer (some ⟨b, 0, none⟩), .agg (opL o vd).toArray] w1 R := fun R hR => by
      refine (turn_any (vd := vd) hin hk hnext h1).mono ?_
      rintro e w2 ⟨h2, rfl⟩
      exact hR _ h2.drop2
    rcases (by omega : o.kind = 1 ∨ o.kind = 2 ∨ o.kind = 3) with k | k | k
    · have k1 : (o.kind : Int) = 1 := by omega
      simp -dsimp -implicitDefEqProofs (disch := omega) only [go_sem, reqD_of, dec_t, dec_f, wrap_i64, wrap_u32, wrap_u64, wrap_u8, h1.cl B, k1, hrow]
      refine (turn_any (vd := vd) hin hk hnext h1).mono ?_
      rintro e w2 ⟨h2, rfl⟩
      simp -dsimp -implicitDefEqProofs (disch := omega) only [go_sem, reqD_of, dec_t, dec_f, wrap_i64, wrap_u32, wrap_u64, wrap_u8]
      refine endT2 ?_
      simp -dsimp -implicitDefEqProofs only [go_sem]
      exact h2.drop2
    · have k1 : ¬ (o.kind : Int) = 1 := by omega
      have k2 : (o.kind : Int) = 2 := by omega
      simp -dsimp -implicitDefEqProofs (disch := omega) only [go_sem, reqD_of, dec_t, dec_f, wrap_i64, wrap_u32, wrap_u64, wrap_u8, h1.cl B, k1, k2, hrow]
      refine (turn_any (vd := vd) hin hk hnext h1).mono ?_
      rintro e w2 ⟨h2, rfl⟩
      simp -dsimp -implicitDefEqProofs (disch := omega) only [go_sem, reqD_of, dec_t, dec_f, wrap_i64, wrap_u32, wrap_u64, wrap_u8]
      refine endT2 ?_
      simp -dsimp -implicitDefEqProofs only [go_sem]
      exact h2.drop2
    · have k1 : ¬ (o.kind : Int) = 1 := by omega
      have k2 : ¬ (o.kind : Int) = 2 := by omega
      have k3 : (o.kind : Int) = 3 := by omega
      simp -dsimp -implicitDefEqProofs (disch := omega) only [go_sem, reqD_of, dec_t, dec_f, wrap_i64, wrap_u32, wrap_u64, wrap_u8, h1.cl B, k1, k2, k3, hrow]
      refine (turn_any (vd := vd) hin hk hnext h1).mono ?_
      rintro e w2 ⟨h2, rfl⟩
      simp -dsimp -implicitDefEqProofs (disch := omega) only [go_sem, reqD_of, dec_t, dec_f, wrap_i64, wrap_u32, wrap_u64, wrap_u8]
      refine endT2 ?_
      simp -dsimp -implicitDefEqProofs only [go_sem]
      exact h2.drop2
  have k1 : ¬ (o.kind : Int) = 1 := by omega
  have k2 : ¬ (o.kind : Int) = 2 := by omega
  have k3 : ¬ (o.kind : Int) = 3 := by omega
  by_cases hk4 : 4 ≤ o.kind ∧ o.kind ≤ 7
  case neg =>
    have hr : doF s o = (s, 0, 1) := by unfold doF; rw [if_pos (by omega)]
    have k4 : ¬ (o.kind : Int) = 4 := by omega
    have k5 : ¬ (o.kind : Int) = 5 := by omega
    have k6 : ¬ (o.kind : Int) = 6 := by omega
    have k7 : ¬ (o.kind : Int) = 7 := by omega
    rw [hr]
    simp -dsimp -implicitDefEqProofs (disch := omega) only [go_sem, reqD_of, dec_t, dec_f, wrap_i64, wrap_u32, wrap_u64, wrap_u8, h1.cl B, k1, k2, k3, k4, k5, k6, k7]
    refine endT2 ?_
    simp -dsimp -implicitDefEqProofs only [go_sem]
    exact h1.drop2
  have go : ∀ (e : FA), e.ds = [] → e.ρ 0 = .pointer (some ⟨b, 0, none⟩) → e.ρ 3 = .pointer (some ⟨B, 0, none⟩) → cwE Tryd.prog F20.t11 (fnM Tryd.prog #[.tmp 4, .tmp 5] fun e w' => St w0 (StoreP b 0 0 (doF s o).1 * A) w' ∧ e = .returned (.tuple #[.int .u64 (doF s o).2.1, .int .i64 (doF s o).2.2])) e w1 := fun e hd e0 e3 =>
    do_t11 hin hk4 h1 hd e0 e3 fun w' h' => ⟨h', rfl⟩
  rcases (by omega : o.kind = 4 ∨ o.kind = 5 ∨ o.kind = 6 ∨ o.kind = 7) with k | k | k | k
  · have k4 : (o.kind : Int) = 4 := by omega
    simp -dsimp -implicitDefEqProofs (disch := omega) only [go_sem, reqD_of, dec_t, dec_f, wrap_i64, wrap_u32, wrap_u64, wrap_u8, h1.cl B, k1, k2, k3, k4]
    exact go _ (by simp -dsimp -implicitDefEqProofs only [go_sem]) (by simp -dsimp -implicitDefEqProofs only [go_sem]) (by simp -dsimp -implicitDefEqProofs only [go_sem])
  · have k4 : ¬ (o.kind : Int) = 4 := by omega
    have k5 : (o.kind : Int) = 5 := by omega
    simp -dsimp -implicitDefEqProofs (disch := omega) only [go_sem, reqD_of, dec_t, dec_f, wrap_i64, wrap_u32, wrap_u64, wrap_u8, h1.cl B, k1, k2, k3, k4, k5]
    exact go _ (by simp -dsimp -implicitDefEqProofs only [go_sem]) (by simp -dsimp -implicitDefEqProofs only [go_sem]) (by simp -dsimp -implicitDefEqProofs only [go_sem])
  · have k4 : ¬ (o.kind : Int) = 4 := by omega
    have k5 : ¬ (o.kind : Int) = 5 := by omega
    have k6 : (o.kind : Int) = 6 := by omega
    simp -dsimp -implicitDefEqProofs (disch := omega) only [go_sem, reqD_of, dec_t, dec_f, wrap_i64, wrap_u32, wrap_u64, wrap_u8, h1.cl B, k1, k2, k3, k4, k5, k6]
    exact go _ (by simp -dsimp -implicitDefEqProofs only [go_sem]) (by simp -dsimp -implicitDefEqProofs only [go_sem]) (by simp -dsimp -implicitDefEqProofs only [go_sem])
  · have k4 : ¬ (o.kind : Int) = 4 := by omega
    have k5 : ¬ (o.kind : Int) = 5 := by omega
    have k6 : ¬ (o.kind : Int) = 6 := by omega
    have k7 : (o.kind : Int) = 7 := by omega
    simp -dsimp -implicitDefEqProofs (disch := omega) only [go_sem, reqD_of, dec_t, dec_f, wrap_i64, wrap_u32, wrap_u64, wrap_u8, h1.cl B, k1, k2, k3, k4, k5, k6, k7]
    exact go _ (by simp -dsimp -implicitDefEqProofs only [go_sem]) (by simp -dsimp -implicitDefEqProofs only [go_sem]) (by simp -dsimp -implicitDefEqProofs only [go_sem])
end
end
end Go.Proofs.YtijnmokpihhhcaaDoor

namespace Go.Proofs.YtijnmokpihhhcaaDoor
open Go
set_option linter.unusedVariables false
set_option linter.unusedSimpArgs false
set_option maxRecDepth 100000

/-- A configuration. -/
structure CfgD where
  users : List UInt8
  owner : List UInt8
  group : List UInt8
  perm : Nat
  v4 : Int
  v5 : Int
  v6 : Int
  v7 : Int
  nodes : Int
  v9 : Int
abbrev cfgL (c : CfgD) : List Value := [.string (strOf c.users), .string (strOf c.owner), .string (strOf c.group), .int .u32 c.perm, .int .u64 c.v4, .int .u32 c.v5, .int .i64 c.v6, .int .i64 c.v7, .int .i64 c.nodes, .int .i64 c.v9]
def rootD (c : CfgD) : NodeD := ⟨⟨1, 1, [47], 2147483648 ||| c.perm, c.owner, c.group, c.owner, 0, 0, 0, 0, 0, 0⟩, []⟩
def newF (c : CfgD) : Except Nat SD :=
  if c.nodes < 1 ∨ 4096 < c.nodes ∨ ¬ c.perm &&& 4294966784 = 0 then .error 1
  else if c.owner = [] ∨ c.group = [] ∨ userF c.owner = false ∨ userF c.group = false then .error 1
  else .ok ⟨c.nodes.toNat, 2, [rootD c]⟩
structure CfgIn (c : CfgD) : Prop where
  perm : c.perm < 4294967296
  n0 : -9223372036854775808 ≤ c.nodes
  n1 : c.nodes ≤ 9223372036854775807
  owner : c.owner.length ≤ 4294967296
  group : c.group.length ≤ 4294967296

theorem bPerm {P : Program} {T : TypeId} {m : Nat} (hm : m < 4294967296) : binV P .andNot T (.int .u32 m) (.int .u32 511) = some (.int .u32 ((m &&& 4294966784 : Nat) : Int)) := by
  rw [bNot32 hm (by omega)]
  rfl
theorem bDirO {P : Program} {T : TypeId} {m : Nat} (hm : m < 4294967296) : binV P .or T (.int .u32 2147483648) (.int .u32 m) = some (.int .u32 ((2147483648 ||| m : Nat) : Int)) := by
  rw [bOr32 hm (by omega)]
  rfl

theorem root_wf {c : CfgD} (hc : CfgIn c) (h1 : ¬ (c.nodes < 1 ∨ 4096 < c.nodes)) (g1 : userF c.owner = true) (g2 : userF c.group = true) : Wf ⟨c.nodes.toNat, 2, [rootD c]⟩ := by
  have hm : 2147483648 ||| c.perm < 4294967296 := Nat.or_lt_two_pow (n := 32) (by decide) hc.perm
  have hd : dirF (2147483648 ||| c.perm) = true := by unfold dirF; exact decide_eq_true Nat.left_le_or
  have u1 := userF_len g1
  have u2 := userF_len g2
  refine ⟨?_, by simp, ?_, ⟨rootD c, rfl, rfl, hd⟩, ?_, ?_, by simp; omega, by simp; omega⟩
  · intro n hn
    simp only [List.mem_cons, List.not_mem_nil, or_false] at hn
    subst hn
    exact ⟨rfl, by simp [rootD], rfl, hm, by simp [rootD], by simp [rootD], by simp [rootD], by simp [rootD], by simp [rootD], fun _ => rfl, by simp [rootD], u1, u2, u1⟩
  · intro n hn
    simp only [List.mem_cons, List.not_mem_nil, or_false] at hn
    subst hn
    exact ⟨by simp [rootD], by simp [rootD]⟩
  · intro n hn h
    simp only [List.mem_cons, List.not_mem_nil, or_false] at hn
    subst hn
    exact absurd rfl h
  · intro a ha b hb h
    simp only [List.mem_cons, List.not_mem_nil, or_false] at ha
    subst ha
    exact absurd rfl h

section
variable {w0 w : World} {A : HP} {c : CfgD}
section
attribute [local go_sem] F13.t5_eq F13.t3_eq
theorem new_any [Gives A Tabs] (hc : CfgIn c) (h : St w0 A w) :
    Calls Tryd.prog 13 #[.agg (cfgL c).toArray] w fun e w' => match newF c with
      | .error k => St w0 A w' ∧ e = .returned (.tuple #[.pointer none, .int .i64 k])
      | .ok s => ∃ b, St w0 (StoreP b 0 0 s * A) w' ∧ e = .returned (.tuple #[.pointer (some ⟨b, 0, none⟩), .int .i64 0]) := by
  refine F13.calls (by simp) ?_
  unfold F13.code
  simp -dsimp -implicitDefEqProofs (disch := omega) only [go_sem, reqD_of, dec_t, dec_f, wrap_i64, wrap_u32, wrap_u64, wrap_u8]
  refine h.new fun B w1 h1 => ?_
  have hp := bPerm (P := Tryd.prog) (T := 29) hc.perm
  by_cases c1 : c.nodes < 1
  · have hr : newF c = .error 1 := by unfold newF; rw [if_pos (.inl c1)]
    rw [hr]
    simp -dsimp -implicitDefEqProofs (disch := omega) only [go_sem, reqD_of, dec_t, dec_f, wrap_i64, wrap_u32, wrap_u64, wrap_u8, h1.cl B, c1, hp]
    exact h1.right
  by_cases c2 : 4096 < c.nodes
  · have hr : newF c = .error 1 := by unfold newF; rw [if_pos (.inr (.inl c2))]
    rw [hr]
    simp -dsimp -implicitDefEqProofs (disch := omega) only [go_sem, reqD_of, dec_t, dec_f, wrap_i64, wrap_u32, wrap_u64, wrap_u8, h1.cl B, c1, c2, hp]
    exact h1.right
  by_cases c3 : ((c.perm &&& 4294966784 : Nat) : Int) = 0
  case neg =>
    have hr : newF c = .error 1 := by unfold newF; rw [if_pos (.inr (.inr (by omega)))]
    rw [hr]
    simp -dsimp -implicitDefEqProofs (disch := omega) only [go_sem, reqD_of, dec_t, dec_f, wrap_i64, wrap_u32, wrap_u64, wrap_u8, h1.cl B, c1, c2, hp, c3]
    exact h1.right
  have hn1 : ¬ (c.nodes < 1 ∨ 4096 < c.nodes ∨ ¬ c.perm &&& 4294966784 = 0) := by omega
  by_cases c4 : c.owner = []
  · have hr : newF c = .error 1 := by unfold newF; rw [if_neg hn1, if_pos (.inl c4)]
    rw [hr]
    have e4 : decide (c.owner = []) = true := decide_eq_true c4
    simp -dsimp -implicitDefEqProofs (disch := omega) only [go_sem, reqD_of, dec_t, dec_f, wrap_i64, wrap_u32, wrap_u64, wrap_u8, h1.cl B, c1, c2, hp, c3, e4]
    exact h1.right
  by_cases c5 : c.group = []
  · have hr : newF c = .error 1 := by unfold newF; rw [if_neg hn1, if_pos (.inr (.inl c5))]
    rw [hr]
    have e5 : decide (c.group = []) = true := decide_eq_true c5
    simp -dsimp -implicitDefEqProofs (disch := omega) only [go_sem, reqD_of, dec_t, dec_f, wrap_i64, wrap_u32, wrap_u64, wrap_u8, h1.cl B, c1, c2, hp, c3, c4, e5]
    exact h1.right
  simp -dsimp -implicitDefEqProofs (disch := omega) only [go_sem, reqD_of, dec_t, dec_f, wrap_i64, wrap_u32, wrap_u64, wrap_u8, h1.cl B, c1, c2, hp, c3, c4, c5]
  refine (mayUser_any h1 (Nat.le_trans hc.owner (by omega))).mono ?_
  rintro e w2 ⟨h2, rfl⟩
  cases g1 : userF c.owner
  case false =>
    have hr : newF c = .error 1 := by unfold newF; rw [if_neg hn1, if_pos (.inr (.inr (.inl g1)))]
    rw [hr]
    simp -dsimp -implicitDefEqProofs (disch := omega) only [go_sem, reqD_of, dec_t, dec_f, wrap_i64, wrap_u32, wrap_u64, wrap_u8]
    exact h2.right
  simp -dsimp -implicitDefEqProofs (disch := omega) only [go_sem, reqD_of, dec_t, dec_f, wrap_i64, wrap_u32, wrap_u64, wrap_u8, h2.cl B]
  refine (mayUser_any h2 (Nat.le_trans hc.group (by omega))).mono ?_
  rintro e w3 ⟨h3, rfl⟩
  cases g2 : userF c.group
  case false =>
    have hr : newF c = .error 1 := by unfold newF; rw [if_neg hn1, if_pos (.inr (.inr (.inr g2)))]
    rw [hr]
    simp -dsimp -implicitDefEqProofs (disch := omega) only [go_sem, reqD_of, dec_t, dec_f, wrap_i64, wrap_u32, wrap_u64, wrap_u8]
    exact h3.right
  have hr : newF c = .ok ⟨c.nodes.toNat, 2, [rootD c]⟩ := by
    unfold newF
    rw [if_neg hn1, if_neg (by simp [c4, c5, g1, g2])]
  rw [hr]
  have ho := bDirO (P := Tryd.prog) (T := 29) hc.perm
  simp -dsimp -implicitDefEqProofs (disch := omega) only [go_sem, reqD_of, dec_t, dec_f, wrap_i64, wrap_u32, wrap_u64, wrap_u8, h3.cl B, ho]
  refine onV_of (v := .agg (infL (rootD c).i).toArray) (by kernel_rfl) ?_
  simp -dsimp -implicitDefEqProofs (disch := omega) only [go_sem, reqD_of, dec_t, dec_f, wrap_i64, wrap_u32, wrap_u64, wrap_u8]
  refine onV_of (v := .agg (nodeC 0 (rootD c).i (.slice none 0 0) (.slice none 0 0))) (by kernel_rfl) ?_
  simp -dsimp -implicitDefEqProofs (disch := omega) only [go_sem, reqD_of, dec_t, dec_f, wrap_i64, wrap_u32, wrap_u64, wrap_u8]
  refine h3.new fun M w4 h4 => ?_
  simp -dsimp -implicitDefEqProofs (disch := omega) only [go_sem, reqD_of, dec_t, dec_f, wrap_i64, wrap_u32, wrap_u64, wrap_u8, h4.cl B]
  refine h4.makeMap (enc := encU) fun N w5 h5 => ?_
  simp -dsimp -implicitDefEqProofs (disch := omega) only [go_sem, reqD_of, dec_t, dec_f, wrap_i64, wrap_u32, wrap_u64, wrap_u8, h5.cl B]
  refine h5.updH (b := N) (x := (1 : Int)) Tryd.underlying93 lawU fun w6 h6 => ?_
  simp -dsimp -implicitDefEqProofs (disch := omega) only [go_sem, reqD_of, dec_t, dec_f, wrap_i64, wrap_u32, wrap_u64, wrap_u8, h6.cl B]
  refine h6.lit (t := 63) (n := 1) (cells := [u64V 1]) rowTy_u64 rfl (by decide) (by decide) fun v7 w7 h7 => ?_
  obtain ⟨a7, c7, rfl, _⟩ := h7.rowForm v7
  simp -dsimp -implicitDefEqProofs (disch := omega) only [go_sem, reqD_of, dec_t, dec_f, wrap_i64, wrap_u32, wrap_u64, wrap_u8, h7.cl B]
  refine h7.makeMap (enc := encK) fun C w8 h8 => ?_
  simp -dsimp -implicitDefEqProofs (disch := omega) only [go_sem, reqD_of, dec_t, dec_f, wrap_i64, wrap_u32, wrap_u64, wrap_u8, h8.cl B]
  refine onV_of (v := .agg (storeC 0 0 c.nodes.toNat 2 (.map (some N)) (.slice a7 1 c7) (.map (some C)))) ?_ ?_
  · have hn' : Value.int .i64 c.nodes = .int .i64 ((c.nodes.toNat : Nat) : Int) := by
      congr 1
      omega
    rw [hn']
    rfl
  simp -dsimp -implicitDefEqProofs (disch := omega) only [go_sem, reqD_of, dec_t, dec_f, wrap_i64, wrap_u32, wrap_u64, wrap_u8]
  refine h8.new fun b w9 h9 => ?_
  simp -dsimp -implicitDefEqProofs (disch := omega) only [go_sem, reqD_of, dec_t, dec_f, wrap_i64, wrap_u32, wrap_u64, wrap_u8]
  have hw := root_wf hc (by omega) g1 g2
  have ok : StoreOk ⟨c.nodes.toNat, 2, [rootD c]⟩ ⟨N, C, .slice a7 1 c7, [⟨rootD c, M, .slice none 0 0, .slice none 0 0, [], []⟩], []⟩ := by
    refine ⟨hw, List.Perm.refl _, fun z hz => ?_, fun z hz => ?_, fun dir nm => ?_⟩
    · simp only [List.mem_cons, List.not_mem_nil, or_false] at hz
      subst hz; rfl
    · simp only [List.mem_cons, List.not_mem_nil, or_false] at hz
      subst hz
      exact ⟨by simp, by simp, fun k _ => by simp [byteAt, rootD]⟩
    · have : isKid dir (rootD c) = false := by simp [isKid, rootD]
      simp [lk, childF, List.find?, this]
  have h10 := (h9.nilR 30 1).nilR 122 1
  have h11 := h10.ent (Ent.embL _)
  have h12 := h11.ent (Ent.embL _)
  have h13 : St w0 (Blk B (.cells (cfgL c).toArray 32 (0, 0)) * (Blk b (.cells (storeC 0 0 c.nodes.toNat 2 (.map (some N)) (.slice a7 1 c7) (.map (some C))) 101 (0, 0)) * (MapP encU N (upd (1 : Int) (.pointer (some ⟨M, 0, none⟩)) []) * (MapP encK C [] * (RowO 30 1 (.slice a7 1 c7) 1 [u64V 1] *
      (Blk M (.cells (nodeC 0 (rootD c).i (.slice none 0 0) (.slice none 0 0)) 92 (0, 0)) * (RowO 30 1 (.slice none 0 0) 0 [] * (RowO 122 1 (.slice none 0 0) 0 [] * EmpH)) * EmpH)))) * A)) w9 := h12.ac (by ac_rfl)
  have h14 : St w0 (StoreQ b 0 0 ⟨c.nodes.toNat, 2, [rootD c]⟩ ⟨N, C, .slice a7 1 c7, [⟨rootD c, M, .slice none 0 0, .slice none 0 0, [], []⟩], []⟩ * A) w9 := h13.right
  exact ⟨b, h14.ent (Ent.sep (StoreP.shut ok) (Ent.rfl' A)), rfl⟩
end
end
end Go.Proofs.YtijnmokpihhhcaaDoor

namespace Go.Proofs.YtijnmokpihhhcaaDoor
open Go
set_option linter.unusedVariables false
set_option linter.unusedSimpArgs false
set_option maxRecDepth 100000

abbrev ann : List UInt8 := [97, 110, 110]
abbrev staff : List UInt8 := [115, 116, 97, 102, 102]
def storeCfg (most : Int) : CfgD := ⟨[], ann, staff, 493, 0, 0, 0, 0, most, 0⟩
/-- A store of so many nodes at most. -/
def storeF (n : Nat) : SD := ⟨n, 2, [rootD (storeCfg n)]⟩
theorem storeCfg_in {most : Int} (h : -9223372036854775808 ≤ most ∧ most ≤ 9223372036854775807) : CfgIn (storeCfg most) := ⟨by show (493 : Nat) < _; decide, h.1, h.2, by show ann.length ≤ _; decide, by show staff.length ≤ _; decide⟩
theorem newF_store {n : Nat} (h : 1 ≤ n ∧ n ≤ 4096) : newF (storeCfg n) = .ok (storeF n) := by
  unfold newF
  have h0 : 493 &&& 4294966784 = 0 := by decide
  have g1 : userF ann = true := by decide
  have g2 : userF staff = true := by decide
  have e1 : ¬ ((storeCfg n).nodes < 1 ∨ 4096 < (storeCfg n).nodes ∨ ¬ (storeCfg n).perm &&& 4294966784 = 0) := by
    show ¬ ((n : Int) < 1 ∨ 4096 < (n : Int) ∨ ¬ 493 &&& 4294966784 = 0)
    rw [h0]; omega
  have e2 : ¬ ((storeCfg n).owner = [] ∨ (storeCfg n).group = [] ∨ userF (storeCfg n).owner = false ∨ userF (storeCfg n).group = false) := by
    show ¬ (ann = [] ∨ staff = [] ∨ userF ann = false ∨ userF staff = false)
    rw [g1, g2]; decide
  rw [if_neg e1, if_neg e2]
  rfl

section
variable {w0 w : World} {A : HP}
section
attribute [local go_sem] F19.t4_eq
theorem store_any [Gives A Tabs] {n : Nat} (hn : 1 ≤ n ∧ n ≤ 4096) (h : St w0 A w) :
    Calls Tryd.prog 19 #[.int .i64 n] w fun e w' => ∃ b, St w0 (StoreP b 0 0 (storeF n) * A) w' ∧ e = .returned (.pointer (some ⟨b, 0, none⟩)) := by
  refine F19.calls (by simp) ?_
  unfold F19.code
  simp -dsimp -implicitDefEqProofs (disch := omega) only [go_sem, reqD_of, dec_t, dec_f, wrap_i64, wrap_u32, wrap_u64, wrap_u8]
  refine onV_of (v := .agg (cfgL (storeCfg n)).toArray) (by kernel_rfl) ?_
  simp -dsimp -implicitDefEqProofs (disch := omega) only [go_sem, reqD_of, dec_t, dec_f, wrap_i64, wrap_u32, wrap_u64, wrap_u8]
  refine (new_any (c := storeCfg n) (storeCfg_in (by omega)) h).mono ?_
  intro e w1 hq
  rw [newF_store hn] at hq
  obtain ⟨b, h1, rfl⟩ := hq
  simp -dsimp -implicitDefEqProofs (disch := omega) only [go_sem, reqD_of, dec_t, dec_f, wrap_i64, wrap_u32, wrap_u64, wrap_u8]
  exact ⟨b, h1, rfl⟩

/-- An operation: a new node. -/
def makF (p : Nat) (nm : List UInt8) (m : Nat) : OpD := ⟨1, p, nm.take 0, 0, ⟨0, 0, nm, m, ann, staff, ann, 0, 0, 0, 0, 0, 0⟩, 0, [], 0⟩
end

theorem mak_any (h : St w0 A w) {p m : Nat} {nm : List UInt8} :
    Calls Tryd.prog 21 #[.int .u64 p, .string (strOf nm), .int .u32 m] w fun e w' => St w0 A w' ∧ e = .returned (.agg (opL (makF p nm m) (.slice none 0 0)).toArray) := by
  refine F21.calls (by simp) ?_
  unfold F21.code
  simp -dsimp -implicitDefEqProofs (disch := omega) only [go_sem, reqD_of, dec_t, dec_f, wrap_i64, wrap_u32, wrap_u64, wrap_u8]
  refine h.new fun B w1 h1 => ?_
  simp -dsimp -implicitDefEqProofs (disch := omega) only [go_sem, reqD_of, dec_t, dec_f, wrap_i64, wrap_u32, wrap_u64, wrap_u8]
  refine onV_of (v := .agg (infL (makF p nm m).node).toArray) (by kernel_rfl) ?_
  simp -dsimp -implicitDefEqProofs (disch := omega) only [go_sem, reqD_of, dec_t, dec_f, wrap_i64, wrap_u32, wrap_u64, wrap_u8]
  refine onV_of (v := .agg (opL (makF p nm m) (.slice none 0 0)).toArray) (by kernel_rfl) ?_
  simp -dsimp -implicitDefEqProofs (disch := omega) only [go_sem, reqD_of, dec_t, dec_f, wrap_i64, wrap_u32, wrap_u64, wrap_u8]
  refine h1.stoAll (b := B) (cs := opL (makF p nm m) (.slice none 0 0)) rfl rfl (by intro v hv; simp only [opL, List.mem_cons, List.not_mem_nil, or_false] at hv; rcases hv with rfl | rfl | rfl | rfl | rfl | rfl | rfl | rfl | rfl | rfl | rfl | rfl | rfl | rfl | rfl | rfl | rfl | rfl | rfl | rfl <;> rfl) fun w2 h2 => ?_
  simp -dsimp -implicitDefEqProofs (disch := omega) only [go_sem, reqD_of, dec_t, dec_f, wrap_i64, wrap_u32, wrap_u64, wrap_u8]
  refine resC_1 (a := ⟨B, 0, none⟩) (v := .agg (opL (makF p nm m) (.slice none 0 0)).toArray) (by simp -dsimp -implicitDefEqProofs only [go_sem]) (run_loadVar_row fact_aggSz_53 (h2.rowH B 20 rfl)) ?_
  exact ⟨h2.right, rfl⟩
end
end Go.Proofs.YtijnmokpihhhcaaDoor

namespace Go.Proofs.YtijnmokpihhhcaaDoor
open Go
set_option linter.unusedVariables false
set_option linter.unusedSimpArgs false
set_option maxRecDepth 100000

abbrev o1 : OpD := makF 1 [97] 2147484096
abbrev o2 : OpD := makF 2 [98] 384
abbrev o3 : OpD := makF 2 [99] 384
abbrev o4 : OpD := ⟨6, 3, [], 0, infZ, 250, [1, 2, 3, 4, 5, 6], 0⟩
abbrev o5 : OpD := ⟨6, 3, [], 0, infZ, 250, [1, 2, 3, 4, 5, 6, 7], 0⟩
def s0 : SD := storeF 3
def s1 : SD := (doF s0 o1).1
def s2 : SD := (doF s1 o2).1
def s4 : SD := (doF s2 o4).1
theorem r1 : (doF s0 o1).2 = (2, 0) := by decide
theorem r2 : (doF s1 o2).2 = (3, 0) := by decide
theorem r3 : doF s2 o2 = (s2, 0, 82) := by rfl
theorem r4 : doF s2 o3 = (s2, 0, 83) := by rfl
theorem r5 : (doF s2 o4).2 = (3, 0) := by decide
theorem r6 : doF s4 o5 = (s4, 0, 84) := by rfl
theorem r7 : readS s4 3 248 4 = [0, 0, 1, 2] := by decide
theorem r8 : (toldI s4 3).length = 256 ∧ (toldI s4 3).parent = 2 ∧ (toldI s4 3).name = [98] ∧ (findN s4.L 3).isSome = true ∧ s4.L.length = 3 := by decide
end Go.Proofs.YtijnmokpihhhcaaDoor

namespace Go.Proofs.YtijnmokpihhhcaaDoor
open Go
set_option linter.unusedVariables false
set_option linter.unusedSimpArgs false
set_option maxRecDepth 100000

theorem mak_in {p m : Nat} {nm : List UInt8} (hm : m < 4294967296) (hn : nm.length ≤ 4294967296) : OpIn (makF p nm m) :=
  ⟨⟨hm, by show (0 : Nat) < _; decide, by show (0 : Nat) < _; decide⟩, by show (0 : Nat) < _; decide, by show (0 : Nat) < _; decide, by show _ ≤ (0 : Int); decide, by show (0 : Int) ≤ _; decide, by show (0 : Nat) ≤ _; decide, by show (nm.take 0).length ≤ _; simp, hn, by show ann.length ≤ _; decide, by show staff.length ≤ _; decide, by show ann.length ≤ _; decide⟩

section
variable {w0 w : World} {A : HP}
section
attribute [local go_sem] F11.t11_eq F11.t4_eq
theorem works_any [Gives A Tabs] (h : St w0 A w) : Calls Tryd.prog 11 #[] w fun e w' => St w0 A w' ∧ e = .returned (.bool true) := by
  refine F11.calls (by simp) ?_
  unfold F11.code
  have hN := h.nilR 5 1
  haveI gN : Gives (RowO 5 1 (.slice none 0 0) 0 [] * A) (RdB (.slice none 0 0) []) := ⟨(Ent.left _ _).trans (RowO.reads _ _ _ _ _)⟩
  haveI g1 : Gives (RowO 5 1 (.slice none 0 0) 0 [] * A) (RdB (.slice none 0 0) o1.data) := gN
  haveI g2 : Gives (RowO 5 1 (.slice none 0 0) 0 [] * A) (RdB (.slice none 0 0) o2.data) := gN
  haveI g3 : Gives (RowO 5 1 (.slice none 0 0) 0 [] * A) (RdB (.slice none 0 0) o3.data) := gN
  simp -dsimp -implicitDefEqProofs (disch := omega) only [go_sem, reqD_of, dec_t, dec_f, wrap_i64, wrap_u32, wrap_u64, wrap_u8]
  refine (store_any (n := 3) (by decide) hN).mono ?_
  rintro e w1 ⟨b, h1, rfl⟩
  simp -dsimp -implicitDefEqProofs (disch := omega) only [go_sem, reqD_of, dec_t, dec_f, wrap_i64, wrap_u32, wrap_u64, wrap_u8]
  refine (next_any h1).mono ?_
  rintro e w2 ⟨h2, rfl⟩
  simp -dsimp -implicitDefEqProofs (disch := omega) only [go_sem, reqD_of, dec_t, dec_f, wrap_i64, wrap_u32, wrap_u64, wrap_u8]
  refine (mak_any (p := 1) (nm := [97]) (m := 2147484096) h2).mono ?_
  rintro e w3 ⟨h3, rfl⟩
  simp -dsimp -implicitDefEqProofs (disch := omega) only [go_sem, reqD_of, dec_t, dec_f, wrap_i64, wrap_u32, wrap_u64, wrap_u8]
  refine (do_any (o := o1) (vd := .slice none 0 0) (mak_in (by decide) (by decide)) (by decide) (by decide) h3).mono ?_
  rintro e w4 ⟨h4, rfl⟩
  have h4 : St w0 (StoreP b 0 0 s1 * (RowO 5 1 (.slice none 0 0) 0 [] * A)) w4 := h4
  rw [show (doF (storeF 3) o1).2 = (2, 0) from r1]
  simp -dsimp -implicitDefEqProofs (disch := omega) only [go_sem, reqD_of, dec_t, dec_f, wrap_i64, wrap_u32, wrap_u64, wrap_u8]
  refine (mak_any (p := 2) (nm := [98]) (m := 384) h4).mono ?_
  rintro e w5 ⟨h5, rfl⟩
  simp -dsimp -implicitDefEqProofs (disch := omega) only [go_sem, reqD_of, dec_t, dec_f, wrap_i64, wrap_u32, wrap_u64, wrap_u8]
  refine (do_any (o := o2) (vd := .slice none 0 0) (mak_in (by decide) (by decide)) (by decide) (by decide) h5).mono ?_
  rintro e w6 ⟨h6, rfl⟩
  have h6 : St w0 (StoreP b 0 0 s2 * (RowO 5 1 (.slice none 0 0) 0 [] * A)) w6 := h6
  rw [r2]
  simp -dsimp -implicitDefEqProofs (disch := omega) only [go_sem, reqD_of, dec_t, dec_f, wrap_i64, wrap_u32, wrap_u64, wrap_u8]
  refine (mak_any (p := 2) (nm := [98]) (m := 384) h6).mono ?_
  rintro e w7 ⟨h7, rfl⟩
  simp -dsimp -implicitDefEqProofs (disch := omega) only [go_sem, reqD_of, dec_t, dec_f, wrap_i64, wrap_u32, wrap_u64, wrap_u8]
  refine (do_any (o := o2) (vd := .slice none 0 0) (mak_in (by decide) (by decide)) (by decide) (by decide) h7).mono ?_
  rintro e w8 ⟨h8, rfl⟩
  rw [r3] at h8 ⊢
  simp -dsimp -implicitDefEqProofs (disch := omega) only [go_sem, reqD_of, dec_t, dec_f, wrap_i64, wrap_u32, wrap_u64, wrap_u8]
  refine (mak_any (p := 2) (nm := [99]) (m := 384) h8).mono ?_
  rintro e w9 ⟨h9, rfl⟩
  simp -dsimp -implicitDefEqProofs (disch := omega) only [go_sem, reqD_of, dec_t, dec_f, wrap_i64, wrap_u32, wrap_u64, wrap_u8]
  refine (do_any (o := o3) (vd := .slice none 0 0) (mak_in (by decide) (by decide)) (by decide) (by decide) h9).mono ?_
  rintro e w10 ⟨h10, rfl⟩
  rw [r4] at h10 ⊢
  have hn : ((storeF 3).next : Int) = 2 := rfl
  simp -dsimp -implicitDefEqProofs (disch := omega) only [go_sem, reqD_of, dec_t, dec_f, wrap_i64, wrap_u32, wrap_u64, wrap_u8, hn]
  refine h10.lit (t := 51) (n := 6) (cells := ([1, 2, 3, 4, 5, 6] : List UInt8).map bv) rowTy_bytes rfl (by decide) (by decide) fun v11 w11 h11 => ?_
  obtain ⟨a11, c11, rfl, _⟩ := h11.rowForm v11
  simp -dsimp -implicitDefEqProofs (disch := omega) only [go_sem, reqD_of, dec_t, dec_f, wrap_i64, wrap_u32, wrap_u64, wrap_u8, hn]
  refine onV_of (v := .agg (opL o4 (.slice a11 6 c11)).toArray) (by rfl) ?_
  simp -dsimp -implicitDefEqProofs (disch := omega) only [go_sem, reqD_of, dec_t, dec_f, wrap_i64, wrap_u32, wrap_u64, wrap_u8, hn]
  haveI g4 : Gives (RowO 5 1 (.slice a11 6 c11) 6 (([1, 2, 3, 4, 5, 6] : List UInt8).map bv) * (RowO 5 1 (.slice none 0 0) 0 [] * A)) (RdB (.slice a11 6 c11) o4.data) := ⟨(Ent.left _ _).trans (RowO.reads _ _ _ _ _)⟩
  have i4 : OpIn o4 := ⟨⟨by decide, by decide, by decide⟩, by decide, by decide, by decide, by decide, by decide, by decide, by decide, by decide, by decide, by decide⟩
  refine (do_any (o := o4) (vd := .slice a11 6 c11) i4 (by decide) (by decide) h11.sw2).mono ?_
  rintro e w12 ⟨h12, rfl⟩
  have h12 : St w0 (StoreP b 0 0 s4 * (RowO 5 1 (.slice none 0 0) 0 [] * A)) w12 := h12.drop2
  rw [r5]
  simp -dsimp -implicitDefEqProofs (disch := omega) only [go_sem, reqD_of, dec_t, dec_f, wrap_i64, wrap_u32, wrap_u64, wrap_u8, hn]
  refine h12.lit (t := 51) (n := 7) (cells := ([1, 2, 3, 4, 5, 6, 7] : List UInt8).map bv) rowTy_bytes rfl (by decide) (by decide) fun v13 w13 h13 => ?_
  obtain ⟨a13, c13, rfl, _⟩ := h13.rowForm v13
  simp -dsimp -implicitDefEqProofs (disch := omega) only [go_sem, reqD_of, dec_t, dec_f, wrap_i64, wrap_u32, wrap_u64, wrap_u8, hn]
  refine onV_of (v := .agg (opL o5 (.slice a13 7 c13)).toArray) (by rfl) ?_
  simp -dsimp -implicitDefEqProofs (disch := omega) only [go_sem, reqD_of, dec_t, dec_f, wrap_i64, wrap_u32, wrap_u64, wrap_u8, hn]
  haveI g5 : Gives (RowO 5 1 (.slice a13 7 c13) 7 (([1, 2, 3, 4, 5, 6, 7] : List UInt8).map bv) * (RowO 5 1 (.slice none 0 0) 0 [] * A)) (RdB (.slice a13 7 c13) o5.data) := ⟨(Ent.left _ _).trans (RowO.reads _ _ _ _ _)⟩
  have i5 : OpIn o5 := ⟨⟨by decide, by decide, by decide⟩, by decide, by decide, by decide, by decide, by decide, by decide, by decide, by decide, by decide, by decide⟩
  refine (do_any (o := o5) (vd := .slice a13 7 c13) i5 (by decide) (by decide) h13.sw2).mono ?_
  rintro e w14 ⟨h14, rfl⟩
  have h14 := h14.drop2
  rw [r6] at h14 ⊢
  simp -dsimp -implicitDefEqProofs (disch := omega) only [go_sem, reqD_of, dec_t, dec_f, wrap_i64, wrap_u32, wrap_u64, wrap_u8, hn]
  refine (sread_any (p := 3) (off := 248) (k := 4) h14 (by decide) (by decide)).mono ?_
  rintro e w15 ⟨v15, h15, rfl⟩
  rw [r7] at h15
  obtain ⟨a15, c15, rfl, _⟩ := h15.rowForm v15
  simp -dsimp -implicitDefEqProofs (disch := omega) only [go_sem, reqD_of, dec_t, dec_f, wrap_i64, wrap_u32, wrap_u64, wrap_u8, hn]
  refine (node_any (p := 3) h15.sw2).mono ?_
  rintro e w16 ⟨h16, rfl⟩
  obtain ⟨q1, q2, q3, q4, q5⟩ := r8
  simp -dsimp -implicitDefEqProofs (disch := omega) only [go_sem, reqD_of, dec_t, dec_f, wrap_i64, wrap_u32, wrap_u64, wrap_u8, hn, toldV, q4]
  refine h16.new fun D w17 h17 => ?_
  simp -dsimp -implicitDefEqProofs (disch := omega) only [go_sem, reqD_of, dec_t, dec_f, wrap_i64, wrap_u32, wrap_u64, wrap_u8, hn]
  refine h17.stoAll (b := D) (cs := infL (toldI s4 3)) rfl rfl (infL_cells _) fun w18 h18 => ?_
  simp -dsimp -implicitDefEqProofs (disch := omega) only [go_sem, reqD_of, dec_t, dec_f, wrap_i64, wrap_u32, wrap_u64, wrap_u8, hn]
  refine (count_any (h18.sw2)).mono ?_
  rintro e w19 ⟨h19, rfl⟩
  simp -dsimp -implicitDefEqProofs (disch := omega) only [go_sem, reqD_of, dec_t, dec_f, wrap_i64, wrap_u32, wrap_u64, wrap_u8, hn, q5]
  refine St.str (bs := [0, 0, 1, 2]) h19 ((Ent.right _ _).trans ((Ent.right _ _).trans ((Ent.left _ _).trans (RowO.reads _ _ _ _ _)))) Tryd.underlying51 Tryd.underlying5 Tryd.underlying9 ?_
  have e1 : ((toldI s4 3).length : Int) = 256 := by rw [q1]; rfl
  have e2 : ((toldI s4 3).parent : Int) = 2 := by rw [q2]; rfl
  simp -dsimp -implicitDefEqProofs (disch := omega) only [go_sem, reqD_of, dec_t, dec_f, wrap_i64, wrap_u32, wrap_u64, wrap_u8, hn, q5, h19.cl D, e1, e2, q3]
  exact h19.right.right.right.right

end
end
end Go.Proofs.YtijnmokpihhhcaaDoor

namespace Go.Proofs.YtijnmokpihhhcaaDoor
open Go
set_option linter.unusedVariables false
set_option linter.unusedSimpArgs false
set_option maxRecDepth 100000

section
variable {w0 w : World} {A : HP}
abbrev kC : List Value := [.int .u8 1, .int .u8 2, .int .u8 3, .int .u8 4, .int .u8 5, .int .u8 6, .int .u8 7]
abbrev mC : List Value := [.int .u8 1, .int .u8 2, .int .u8 4, .int .u8 8, .int .u8 16, .int .u8 32, .int .u8 64]
abbrev eC : List Value := [.int .i64 80, .int .i64 81, .int .i64 82, .int .i64 83, .int .i64 84, .int .i64 85, .int .i64 86, .int .i64 87]
section
attribute [local go_sem] F3.t6_eq F3.t7_eq F3.t11_eq F3.t12_eq F3.t14_eq F3.t9_eq
theorem names_any [Gives A Tabs] (h : St w0 A w) : Calls Tryd.prog 3 #[] w fun e w' => St w0 A w' ∧ e = .returned (.bool true) := by
  refine F3.calls (by simp) ?_
  unfold F3.code
  simp -dsimp -implicitDefEqProofs (disch := omega) only [go_sem, reqD_of, dec_t, dec_f, wrap_i64, wrap_u32, wrap_u64, wrap_u8]
  refine h.lit (t := 23) (n := 7) (cells := kC) (e := 22) (s := 1) (bs := 1) (zs := [.int .u8 0]) (by kernel_rfl) rfl (by decide) (by decide) fun v1 w1 h1 => ?_
  obtain ⟨a1, c1, rfl, _⟩ := h1.rowForm v1
  simp -dsimp -implicitDefEqProofs (disch := omega) only [go_sem, reqD_of, dec_t, dec_f, wrap_i64, wrap_u32, wrap_u64, wrap_u8]
  refine h1.lit (t := 25) (n := 7) (cells := mC) (e := 24) (s := 1) (bs := 1) (zs := [.int .u8 0]) (by kernel_rfl) rfl (by decide) (by decide) fun v2 w2 h2 => ?_
  obtain ⟨a2, c2, rfl, _⟩ := h2.rowForm v2
  simp -dsimp -implicitDefEqProofs (disch := omega) only [go_sem, reqD_of, dec_t, dec_f, wrap_i64, wrap_u32, wrap_u64, wrap_u8]
  refine h2.lit (t := 27) (n := 8) (cells := eC) (e := 26) (s := 1) (bs := 8) (zs := [.int .i64 0]) (by kernel_rfl) rfl (by decide) (by decide) fun v3 w3 h3 => ?_
  obtain ⟨a3, c3, rfl, _⟩ := h3.rowForm v3
  simp -dsimp -implicitDefEqProofs (disch := omega) only [go_sem, reqD_of, dec_t, dec_f, wrap_i64, wrap_u32, wrap_u64, wrap_u8]
  refine loop_intro (fun e w' => e.ds = [] ∧ e.ρ 1 = .slice a1 7 c1 ∧ e.ρ 2 = .slice a2 7 c2 ∧ e.ρ 3 = .slice a3 8 c3 ∧ ∃ i : Nat, i ≤ 7 ∧ e.ρ 4 = .int .i64 i ∧
      St w0 (RowO 26 1 (.slice a3 8 c3) 8 eC * (RowO 24 1 (.slice a2 7 c2) 7 mC * (RowO 22 1 (.slice a1 7 c1) 7 kC * A))) w')
    (fun e _ => match e.ρ 4 with | .int _ x => (7 - x).toNat | _ => 0) ?_ ?_
  · exact ⟨by simp -dsimp -implicitDefEqProofs only [go_sem], by simp -dsimp -implicitDefEqProofs only [go_sem], by simp -dsimp -implicitDefEqProofs only [go_sem], by simp -dsimp -implicitDefEqProofs only [go_sem], 0, by omega, by simp -dsimp -implicitDefEqProofs only [go_sem], h3⟩
  clear h h1 h2 h3
  rintro e w ⟨hd, e1, e2, e3, i, hi, e4, h⟩
  by_cases hlt : (i : Int) < 7
  · obtain ⟨g1, o1, rfl, p1⟩ := h.drew.atS (a := a1) (n := 7) (c := c1) (xs := kC) (k := i) (by show i < 7; omega)
    obtain ⟨g2, o2, rfl, p2⟩ := h.drew.atS (a := a2) (n := 7) (c := c2) (xs := mC) (k := i) (by show i < 7; omega)
    rcases (by omega : i = 0 ∨ i = 1 ∨ i = 2 ∨ i = 3 ∨ i = 4 ∨ i = 5 ∨ i = 6) with rfl | rfl | rfl | rfl | rfl | rfl | rfl
    all_goals
      simp only [kC, mC, List.getElem_cons_zero, List.getElem_cons_succ, Nat.add_zero] at p1 p2
      simp only [Int.ofNat_eq_natCast, Int.cast_ofNat_Int] at e4
    all_goals
      simp -dsimp -implicitDefEqProofs (disch := omega) only [go_sem, reqD_of, dec_t, dec_f, wrap_i64, wrap_u32, wrap_u64, wrap_u8, hd, e1, e2, e3, e4, p1, p2]
    · exact ⟨1, by omega, rfl, h.drew⟩
    · exact ⟨2, by omega, rfl, h.drew⟩
    · exact ⟨3, by omega, rfl, h.drew⟩
    · exact ⟨4, by omega, rfl, h.drew⟩
    · exact ⟨5, by omega, rfl, h.drew⟩
    · exact ⟨6, by omega, rfl, h.drew⟩
    · exact ⟨7, by omega, rfl, h.drew⟩
  · simp -dsimp -implicitDefEqProofs (disch := omega) only [go_sem, reqD_of, dec_t, dec_f, wrap_i64, wrap_u32, wrap_u64, wrap_u8, hd, e1, e2, e3, e4, hlt]
    refine loop_intro (fun e w' => e.ds = [] ∧ e.ρ 3 = .slice a3 8 c3 ∧ ∃ i : Nat, i ≤ 8 ∧ e.ρ 5 = .int .i64 i ∧ St w0 (RowO 26 1 (.slice a3 8 c3) 8 eC * A) w')
      (fun e _ => match e.ρ 5 with | .int _ x => (8 - x).toNat | _ => 0) ?_ ?_
    · exact ⟨by simp -dsimp -implicitDefEqProofs only [go_sem, hd], by simp -dsimp -implicitDefEqProofs only [go_sem, e3], 0, by omega, by simp -dsimp -implicitDefEqProofs only [go_sem], h.drop2.drop2⟩
    clear h hlt hd e1 e2 e3 e4 e w
    rintro e w ⟨hd, e3, j, hj, e5, h⟩
    by_cases hlt : (j : Int) < 8
    · obtain ⟨g1, o1, rfl, p1⟩ := h.atS (a := a3) (n := 8) (c := c3) (xs := eC) (k := j) (by show j < 8; omega)
      rcases (by omega : j = 0 ∨ j = 1 ∨ j = 2 ∨ j = 3 ∨ j = 4 ∨ j = 5 ∨ j = 6 ∨ j = 7) with rfl | rfl | rfl | rfl | rfl | rfl | rfl | rfl
      all_goals
        simp only [eC, List.getElem_cons_zero, List.getElem_cons_succ, Nat.add_zero] at p1
        simp only [Int.ofNat_eq_natCast, Int.cast_ofNat_Int] at e5
      all_goals
        simp -dsimp -implicitDefEqProofs (disch := omega) only [go_sem, reqD_of, dec_t, dec_f, wrap_i64, wrap_u32, wrap_u64, wrap_u8, hd, e3, e5, p1]
      · exact ⟨1, by omega, rfl, h⟩
      · exact ⟨2, by omega, rfl, h⟩
      · exact ⟨3, by omega, rfl, h⟩
      · exact ⟨4, by omega, rfl, h⟩
      · exact ⟨5, by omega, rfl, h⟩
      · exact ⟨6, by omega, rfl, h⟩
      · exact ⟨7, by omega, rfl, h⟩
      · exact ⟨8, by omega, rfl, h⟩
    · simp -dsimp -implicitDefEqProofs (disch := omega) only [go_sem, reqD_of, dec_t, dec_f, wrap_i64, wrap_u32, wrap_u64, wrap_u8, hd, e3, e5, hlt]
      refine (works_any h).mono ?_
      rintro e' w2 ⟨h2, rfl⟩
      simp -dsimp -implicitDefEqProofs (disch := omega) only [go_sem, reqD_of, dec_t, dec_f, wrap_i64, wrap_u32, wrap_u64, wrap_u8, hd]
      exact h2.right
end
end
end Go.Proofs.YtijnmokpihhhcaaDoor

namespace Go.Proofs.YtijnmokpihhhcaaDoor
open Go
set_option linter.unusedVariables false

theorem rSlice_choose {α β : Type} {s b : Nat} {R : Rdr α} {enc : β → List Value} {p : β → Heap → Prop} (he : ∀ x cs h, R.rel x cs h → ∃ y, cs = enc y ∧ p y h) (hk : ∀ y, (enc y).length = s) {xs : List α} {v : Value} {h : Heap}
    (c : (rSlice s b R).rel xs [v] h) : ∃ ys : List β, ys.length = xs.length ∧ (∀ y ∈ ys, p y h) ∧ Reads s v ys.length (ys.flatMap enc) h := by
  obtain ⟨a, cap, e, l, m, r, k⟩ := c
  simp only [List.cons.injEq, and_true] at e
  subst e
  rcases k with k | ⟨g, o, cur, T, fr, ea, hg, hj⟩
  · subst k
    exact ⟨[], rfl, fun y hy => by simp at hy, by simp, a, cap, rfl, l, .inl rfl⟩
  · obtain ⟨ys, hl, hy⟩ := choose_list (n := xs.length) (p := fun j (y : β) => (cur.toList.drop (o + j * s)).take s = enc y ∧ p y h) fun j hj' => he _ _ _ (hj j hj').2
    refine ⟨ys, hl, fun y hm => ?_, ?_⟩
    · obtain ⟨i, hi, rfl⟩ := List.getElem_of_mem hm
      exact (hy i hi).2
    · refine ⟨flatMap_length hk ys, a, cap, by rw [hl], by omega, .inr ⟨g, o, cur, T, fr, ea, hg, fun t ht => ?_⟩⟩
      rw [flatMap_length hk] at ht
      obtain ⟨i, j, hi, hjs, e, hf⟩ := flatMap_at_all hk ys t ht
      rw [hf, ← (hy i hi).1, e, List.getElem?_take_of_lt hjs, List.getElem?_drop, Array.getElem?_toList]
      congr 1
      omega

/-- A part of an element, as a row. -/
theorem rowV_part {w : World} {b o k lo n : Nat} {cs : List Value} (hk : cs.length = k) (hc : ∀ j, j < k → w.cell? ⟨b, o + j, none⟩ = cs[j]?) (h : lo + n ≤ k) : rowV w ⟨b, o + lo, none⟩ n = some (.agg ((cs.drop lo).take n).toArray) := by
  unfold rowV
  rw [cellsFrom_of w _ n 0 ((cs.drop lo).take n) (by rw [List.length_take, List.length_drop]; omega) fun j hj => by
    rw [Nat.zero_add, add_lit, Nat.add_assoc, hc (lo + j) (by omega), List.getElem?_take_of_lt hj, List.getElem?_drop]]
  rfl

end Go.Proofs.YtijnmokpihhhcaaDoor

namespace Go.Proofs.YtijnmokpihhhcaaDoor
open Go
set_option linter.unusedVariables false

theorem flatMap_one {α β : Type} (f : α → β) (l : List α) : (l.flatMap fun x => [f x]) = l.map f := by
  induction l with
  | nil => rfl
  | cons a l ih => simp [ih]
theorem wf_i64 {z : Int} (h : (Lit.int .i64 z).wf = true) : -9223372036854775808 ≤ z ∧ z ≤ 9223372036854775807 := by
  simpa [Lit.wf, IntKind.min, IntKind.max, IntKind.signed, IntKind.bits] using h
theorem rSlice_len {α : Type} {s b : Nat} {R : Rdr α} {xs : List α} {v : Value} {h : Heap} (k : (rSlice s b R).rel xs [v] h) : xs.length * b ≤ reachBytes := by
  obtain ⟨_, _, _, _, _, r, _⟩ := k
  exact r
theorem rSlice_all {α : Type} {s b : Nat} {R : Rdr α} {xs : List α} {v : Value} {h : Heap} {p : α → Prop} (hp : ∀ x cs h, R.rel x cs h → p x) (k : (rSlice s b R).rel xs [v] h) : ∀ x ∈ xs, p x := by
  obtain ⟨_, _, _, _, _, _, k⟩ := k
  intro x hx
  rcases k with rfl | ⟨_, _, _, _, _, _, _, hj⟩
  · simp at hx
  · obtain ⟨j, hj', rfl⟩ := List.mem_iff_getElem.1 hx
    exact hp _ _ _ (hj j hj').2
theorem ints_arg {W : World} {xs : List Int} {v : Value} (k : (rSlice 1 8 (rInt .i64)).rel xs [v] (heapOf W)) :
    Ent (Old W) (Reads 1 v xs.length (xs.map fun z => .int .i64 z)) ∧ (∀ z ∈ xs, -9223372036854775808 ≤ z ∧ z ≤ 9223372036854775807) ∧ xs.length ≤ 4611686018427387904 := by
  refine ⟨?_, rSlice_all (R := rInt .i64) (fun x cs h e => wf_i64 e.2) k, ?_⟩
  · have := (Rdr.old k).trans (rSlice_reads (R := rInt .i64) (enc := fun z => [.int .i64 z]) (fun x cs h e => e.1) (fun _ => rfl))
    rwa [flatMap_one] at this
  · have := rSlice_len k
    have := reachBytes_lt
    omega
theorem texts_arg {W : World} {xs : List ByteArray} {v : Value} (k : (rSlice 1 16 rStr).rel xs [v] (heapOf W)) :
    Ent (Old W) (Reads 1 v (xs.map fun s => s.data.toList).length ((xs.map fun s => s.data.toList).map sv)) ∧ (xs.map fun s => s.data.toList).length ≤ 4611686018427387904 ∧ ∀ s ∈ xs.map fun s => s.data.toList, s.length ≤ 140737488355328 := by
  refine ⟨?_, ?_, ?_⟩
  · have := (Rdr.old k).trans (rSlice_reads (R := rStr) (enc := fun s => [.string s]) (fun x cs h e => e.1) (fun _ => rfl))
    rw [flatMap_one] at this
    rw [List.length_map, List.map_map]
    have e : (sv ∘ fun (s : ByteArray) => s.data.toList) = fun s => .string s := by
      funext s
      simp [sv, strOf_eta]
    rw [e]; exact this
  · have := rSlice_len k
    have := reachBytes_lt
    simp
    omega
  · intro s hs
    obtain ⟨x, hx, rfl⟩ := List.mem_map.1 hs
    have h1 := rSlice_all (R := rStr) (p := fun s => s.size ≤ reachBytes) (fun x cs h e => e.2) k x hx
    rw [Lib.size_eq] at h1
    have := reachBytes_lt
    omega
end Go.Proofs.YtijnmokpihhhcaaDoor

namespace Go.Proofs.YtijnmokpihhhcaaDoor
open Go
set_option linter.unusedVariables false
set_option linter.unusedSimpArgs false
set_option maxRecDepth 100000

theorem bytes_arg {W : World} {xs : List Int} {v : Value} {h : Heap} (k : (rSlice 1 1 (rInt .u8)).rel xs [v] h) : ∃ bs : List UInt8, RdB v bs h ∧ bs.length ≤ reachBytes := by
  obtain ⟨bs, hl, _, h2⟩ := rSlice_choose (β := UInt8) (enc := fun b => [bv b]) (p := fun _ _ => True) (fun x cs h r => by
    obtain ⟨rfl, w⟩ := r
    have hw : 0 ≤ x ∧ x ≤ 255 := by simpa [Lit.wf, IntKind.min, IntKind.max, IntKind.signed, IntKind.bits] using w
    refine ⟨UInt8.ofNat x.toNat, ?_, trivial⟩
    have : (((UInt8.ofNat x.toNat).toNat : Nat) : Int) = x := by simp; omega
    simp only [bv, this]) (fun _ => rfl) k
  have := rSlice_len k
  rw [flatMap_one] at h2
  exact ⟨bs, h2, by omega⟩

/-- An operation, and its data's slice. -/
structure OpV where
  o : OpD
  v : Value
def opVL (x : OpV) : List Value := opL x.o x.v
theorem opVL_len (x : OpV) : (opVL x).length = 20 := rfl
structure OpIs (x : OpV) (h : Heap) : Prop where
  kind : x.o.kind < 256
  mask : x.o.mask < 256
  offset : x.o.offset < 18446744073709551616
  mode : x.o.node.mode < 4294967296
  atime : x.o.node.atime < 4294967296
  mtime : x.o.node.mtime < 4294967296
  n0 : -9223372036854775808 ≤ x.o.n
  n1 : x.o.n ≤ 9223372036854775807
  data : RdB x.v x.o.data h
  dlen : x.o.data.length ≤ 140737488355328
  name : x.o.name.length ≤ 140737488355328
  nname : x.o.node.name.length ≤ 140737488355328
  uid : x.o.node.uid.length ≤ 140737488355328
  gid : x.o.node.gid.length ≤ 140737488355328
  muid : x.o.node.muid.length ≤ 140737488355328

abbrev rInf := rCons 1 (rInt .u64) (rCons 1 (rInt .u64) (rCons 1 rStr (rCons 1 (rInt .u32) (rCons 1 rStr (rCons 1 rStr (rCons 1 rStr (rCons 1 (rInt .u32) (rCons 1 (rInt .u32) (rCons 1 (rInt .u32) (rCons 1 (rInt .u64) (rCons 1 (rInt .i64) (rCons 1 (rInt .i64) (rEnd)))))))))))))
abbrev rOp := rCons 1 (rInt .u8) (rCons 1 (rInt .u64) (rCons 1 rStr (rCons 1 (rInt .u8) (rCons 13 rInf (rCons 1 (rInt .u64) (rCons 1 (rSlice 1 1 (rInt .u8)) (rCons 1 (rInt .i64) (rEnd))))))))

theorem wf_u8 {z : Int} (h : (Lit.int .u8 z).wf = true) : ((z.toNat : Nat) : Int) = z ∧ z.toNat < 256 := by
  have : 0 ≤ z ∧ z ≤ 255 := by simpa [Lit.wf, IntKind.min, IntKind.max, IntKind.signed, IntKind.bits] using h
  omega
theorem wf_u32 {z : Int} (h : (Lit.int .u32 z).wf = true) : ((z.toNat : Nat) : Int) = z ∧ z.toNat < 4294967296 := by
  have : 0 ≤ z ∧ z ≤ 4294967295 := by simpa [Lit.wf, IntKind.min, IntKind.max, IntKind.signed, IntKind.bits] using h
  omega
theorem wf_u64 {z : Int} (h : (Lit.int .u64 z).wf = true) : ((z.toNat : Nat) : Int) = z ∧ z.toNat < 18446744073709551616 := by
  have : 0 ≤ z ∧ z ≤ 18446744073709551615 := by simpa [Lit.wf, IntKind.min, IntKind.max, IntKind.signed, IntKind.bits] using h
  omega
theorem str_reach {s : ByteArray} (h : s.size ≤ reachBytes) : s.data.toList.length ≤ 140737488355328 := by
  have hq : reachBytes = 140737488351232 := rfl
  rw [Lib.size_eq] at h
  omega
theorem rOp_cells {x} {cs : List Value} {h : Heap} (r : rOp.rel x cs h) : ∃ y : OpV, cs = opVL y ∧ OpIs y h := by
  obtain ⟨x1, x2, x3, x4, ⟨y1, y2, y3, y4, y5, y6, y7, y8, y9, y10, y11, y12, y13, _⟩, x6, x7, x8, _⟩ := x
  obtain ⟨_, _, rfl, _, ⟨rfl, w1⟩, _, _, rfl, _, ⟨rfl, w2⟩, _, _, rfl, _, ⟨rfl, w3⟩, _, _, rfl, _, ⟨rfl, w4⟩, ci, _, rfl, _, ri, _, _, rfl, _, ⟨rfl, w6⟩, cd, _, rfl, hl7, r7, _, _, rfl, _, ⟨rfl, w8⟩, rfl⟩ := r
  obtain ⟨_, _, rfl, _, ⟨rfl, i1⟩, _, _, rfl, _, ⟨rfl, i2⟩, _, _, rfl, _, ⟨rfl, i3⟩, _, _, rfl, _, ⟨rfl, i4⟩, _, _, rfl, _, ⟨rfl, i5⟩, _, _, rfl, _, ⟨rfl, i6⟩, _, _, rfl, _, ⟨rfl, i7⟩, _, _, rfl, _, ⟨rfl, i8⟩, _, _, rfl, _, ⟨rfl, i9⟩, _, _, rfl, _, ⟨rfl, i10⟩, _, _, rfl, _, ⟨rfl, i11⟩, _, _, rfl, _, ⟨rfl, i12⟩, _, _, rfl, _, ⟨rfl, i13⟩, rfl⟩ := ri
  obtain ⟨v, rfl⟩ : ∃ v, cd = [v] := by
    match cd, hl7 with
    | [v], _ => exact ⟨v, rfl⟩
  obtain ⟨bs, hb, hbl⟩ := bytes_arg (W := default) r7
  obtain ⟨a1, a2⟩ := wf_u8 w1
  obtain ⟨b1, b2⟩ := wf_u64 w2
  obtain ⟨c1, c2⟩ := wf_u8 w4
  obtain ⟨d1, d2⟩ := wf_u64 w6
  obtain ⟨e1, e2⟩ := wf_i64 w8
  obtain ⟨f1, f2⟩ := wf_u64 i1
  obtain ⟨g1, g2⟩ := wf_u64 i2
  obtain ⟨h1, h2⟩ := wf_u32 i4
  obtain ⟨k1, k2⟩ := wf_u32 i8
  obtain ⟨l1, l2⟩ := wf_u32 i9
  obtain ⟨m1, m2⟩ := wf_u32 i10
  obtain ⟨n1, n2⟩ := wf_u64 i11
  have hq : reachBytes = 140737488351232 := rfl
  refine ⟨⟨⟨x1.toNat, x2.toNat, x3.data.toList, x4.toNat, ⟨y1.toNat, y2.toNat, y3.data.toList, y4.toNat, y5.data.toList, y6.data.toList, y7.data.toList, y8.toNat, y9.toNat, y10.toNat, y11.toNat, y12, y13⟩, x6.toNat, bs, x8⟩, v⟩, ?_, ⟨a2, c2, d2, h2, k2, l2, e1, e2, hb, (by show bs.length ≤ 140737488355328; omega), str_reach w3, str_reach i3, str_reach i5, str_reach i6, str_reach i7⟩⟩
  simp only [opVL, opL, strOf_eta, a1, b1, c1, d1, f1, g1, h1, k1, l1, m1, n1, List.cons_append, List.nil_append]
end Go.Proofs.YtijnmokpihhhcaaDoor

namespace Go.Proofs.YtijnmokpihhhcaaDoor
open Go
set_option linter.unusedVariables false
set_option linter.unusedSimpArgs false
set_option maxRecDepth 100000

def wtO (o : OpD) : Nat := 100 + o.data.length + o.name.length + o.node.name.length + o.node.uid.length + o.node.gid.length + o.node.muid.length
/-- An operation whose data read so. -/
structure OpA (A : HP) (x : OpV) : Prop where
  kind : x.o.kind < 256
  mask : x.o.mask < 256
  offset : x.o.offset < 18446744073709551616
  mode : x.o.node.mode < 4294967296
  atime : x.o.node.atime < 4294967296
  mtime : x.o.node.mtime < 4294967296
  n0 : -9223372036854775808 ≤ x.o.n
  n1 : x.o.n ≤ 9223372036854775807
  data : Ent A (RdB x.v x.o.data)
  form : ∃ a c, x.v = .slice a x.o.data.length c
  wt : wtO x.o ≤ 1000000000000000
theorem OpIs.a {W : World} {x : OpV} (h : OpIs x (heapOf W)) : OpA (Old W) x := by
  refine ⟨h.kind, h.mask, h.offset, h.mode, h.atime, h.mtime, h.n0, h.n1, Ent.of fun _ ho => Reads.mono (fun b o e => ho b o e) h.data, ?_, ?_⟩
  · obtain ⟨_, a, c, e, _⟩ := h.data
    exact ⟨a, c, e⟩
  · have h1 := h.dlen
    have h2 := h.name
    have h3 := h.nname
    have h4 := h.uid
    have h5 := h.gid
    have h6 := h.muid
    unfold wtO
    omega
structure OpsP (A : HP) (v : Value) (ops : List OpV) : Prop where
  rd : Ent A (Reads 20 v ops.length (ops.flatMap opVL))
  each : ∀ x ∈ ops, OpA A x
  few : ops.length ≤ 1000000000000000
theorem ops_arg {W : World} {xs} {v : Value} (c : (rSlice 20 208 rOp).rel xs [v] (heapOf W)) : ∃ ops : List OpV, (∃ a c, v = .slice a ops.length c) ∧ OpsP (Old W) v ops := by
  obtain ⟨ops, hl, h1, h2⟩ := rSlice_choose (β := OpV) (enc := opVL) (p := OpIs) (fun x cs h r => rOp_cells r) opVL_len c
  have hb := rSlice_len c
  have hq : reachBytes = 140737488351232 := rfl
  have hr : Ent (Old W) (Reads 20 v ops.length (ops.flatMap opVL)) := Ent.of fun _ ho => Reads.mono (fun b o e => ho b o e) h2
  obtain ⟨_, a, c', e, _⟩ := St.rowsAt opVL_len (by decide) ((St.start W).ent hr)
  exact ⟨ops, ⟨a, c', e⟩, hr, fun y hy => (h1 y hy).a, by omega⟩
theorem OpA.in_ {A : HP} {x : OpV} (h : OpA A x) (hw : wtO x.o ≤ 8388608) : OpIn x.o := by
  unfold wtO at hw
  exact ⟨⟨h.mode, h.atime, h.mtime⟩, h.mask, h.offset, h.n0, h.n1, by omega, by omega, by omega, by omega, by omega, by omega⟩
/-- The weight of operations. -/
def wtL (ops : List OpV) : Nat := (ops.map fun x => wtO x.o).sum
theorem wt_take {ops : List OpV} {i : Nat} (hi : i < ops.length) : wtL (ops.take (i + 1)) = wtL (ops.take i) + wtO ops[i].o := by
  unfold wtL
  rw [List.take_succ_eq_append_getElem hi, List.map_append, List.sum_append]
  simp
theorem wt_mem {ops : List OpV} {x : OpV} (hx : x ∈ ops) : wtO x.o ≤ wtL ops := by
  induction ops with
  | nil => simp at hx
  | cons y ops ih =>
    unfold wtL at ih ⊢
    rw [List.map_cons, List.sum_cons]
    rcases List.mem_cons.1 hx with rfl | h
    · omega
    · have := ih h; omega
theorem wt_len (ops : List OpV) : 100 * ops.length ≤ wtL ops := by
  induction ops with
  | nil => simp [wtL]
  | cons y ops ih =>
    unfold wtL at ih ⊢
    rw [List.map_cons, List.sum_cons, List.length_cons]
    have : 100 ≤ wtO y.o := by unfold wtO; omega
    omega

section
variable {w0 w : World} {A : HP}

theorem ofOp_any {x : OpV} (hx : OpA A x) (h : St w0 A w) :
    Calls Tryd.prog 29 #[.agg (opVL x).toArray] w fun e w' => St w0 A w' ∧ e = .returned (.int .i64 (wtO x.o)) := by
  refine F29.calls (by simp) ?_
  unfold F29.code opVL
  obtain ⟨a, c, hv⟩ := hx.form
  have hw := hx.wt
  have e1 : ((wtO x.o : Nat) : Int) = 100 + x.o.data.length + x.o.name.length + x.o.node.name.length + x.o.node.uid.length + x.o.node.gid.length + x.o.node.muid.length := by unfold wtO; omega
  rw [hv]
  unfold wtO at hw
  simp -dsimp -implicitDefEqProofs (disch := omega) only [go_sem, reqD_of, dec_t, dec_f, wrap_i64, wrap_u32, wrap_u64, wrap_u8]
  refine h.new fun B w1 h1 => ?_
  simp -dsimp -implicitDefEqProofs (disch := omega) only [go_sem, reqD_of, dec_t, dec_f, wrap_i64, wrap_u32, wrap_u64, wrap_u8, h1.cl B]
  exact ⟨h1.right, by omega⟩
section
attribute [local go_sem] F25.t3_eq F25.t4_eq F25.t5_eq
theorem ofOps_any {a : Option Addr} {c : Nat} {ops : List OpV} (hP : OpsP A (.slice a ops.length c) ops) {n : Nat} (hn : n ≤ 4000000000000000000) (h : St w0 A w) :
    Calls Tryd.prog 25 #[.slice a ops.length c, .int .i64 n] w fun e w' => St w0 A w' ∧ ∃ k : Nat, e = .returned (.int .i64 k) ∧ (k ≤ 8388608 → n + wtL ops ≤ 8388608) := by
  refine F25.calls (by simp) ?_
  unfold F25.code
  have hfew := hP.few
  simp -dsimp -implicitDefEqProofs (disch := omega) only [go_sem, reqD_of, dec_t, dec_f, wrap_i64, wrap_u32, wrap_u64, wrap_u8]
  refine loop_intro (fun e w' => e.ds = [] ∧ e.ρ 0 = .slice a ops.length c ∧ ∃ i : Nat, i ≤ ops.length ∧ e.ρ 5 = .int .i64 i ∧ e.ρ 1 = .int .i64 (n + wtL (ops.take i) : Nat) ∧ n + wtL (ops.take i) ≤ 5000000000000000000 ∧ St w0 A w')
    (fun e _ => match e.ρ 5 with | .int _ k => (ops.length - k).toNat | _ => 0) ?_ ?_
  · exact ⟨by simp -dsimp -implicitDefEqProofs only [go_sem], by simp -dsimp -implicitDefEqProofs only [go_sem], 0, by omega, by simp -dsimp -implicitDefEqProofs only [go_sem], by simp -dsimp -implicitDefEqProofs only [go_sem]; simp [wtL], by simp [wtL]; omega, h⟩
  clear h
  rintro e w ⟨hd, e0, i, hi, e5, e1, hb, h⟩
  by_cases hlt : (i : Int) < ops.length
  case neg =>
    simp -dsimp -implicitDefEqProofs (disch := omega) only [go_sem, reqD_of, dec_t, dec_f, wrap_i64, wrap_u32, wrap_u64, wrap_u8, hd, e0, e5, e1, hlt]
    refine ⟨h, _, rfl, fun hx => ?_⟩
    have : i = ops.length := by omega
    rw [this, List.take_length] at hx
    exact hx
  by_cases hroom : ((n + wtL (ops.take i) : Nat) : Int) ≤ 8388608
  case neg =>
    simp -dsimp -implicitDefEqProofs (disch := omega) only [go_sem, reqD_of, dec_t, dec_f, wrap_i64, wrap_u32, wrap_u64, wrap_u8, hd, e0, e5, e1, hlt, hroom]
    exact ⟨h, _, rfl, fun _ => by omega⟩
  have hil : i < ops.length := by omega
  obtain ⟨_, a', c', hv, _, hat⟩ := St.rowsAt opVL_len (by decide) (h.ent hP.rd)
  simp only [Value.slice.injEq, true_and] at hv
  obtain ⟨rfl, rfl⟩ := hv
  obtain ⟨g, o, rfl, hrow, _⟩ := hat i hil
  have hx := hP.each _ (List.getElem_mem hil)
  have hw := hx.wt
  have ht := wt_take hil
  simp -dsimp -implicitDefEqProofs (disch := omega) only [go_sem, reqD_of, dec_t, dec_f, wrap_i64, wrap_u32, wrap_u64, wrap_u8, hd, e0, e5, e1, hlt, hroom, hrow]
  refine (ofOp_any hx h).mono ?_
  rintro e' w1 ⟨h1, rfl⟩
  simp -dsimp -implicitDefEqProofs (disch := omega) only [go_sem, reqD_of, dec_t, dec_f, wrap_i64, wrap_u32, wrap_u64, wrap_u8, hd, e0, e5, e1]
  exact ⟨⟨i + 1, by omega, by omega, by omega, by omega, h1⟩, by omega⟩

/-! ### A store behind operations -/

def runF (s : SD) (ops : List OpV) : SD := ops.foldl (fun s x => (doF s x.o).1) s
theorem run_take (s : SD) {ops : List OpV} {i : Nat} (hi : i < ops.length) : runF s (ops.take (i + 1)) = (doF (runF s (ops.take i)) ops[i].o).1 := by
  unfold runF
  rw [List.take_succ_eq_append_getElem hi, List.foldl_append]
  rfl
theorem one_next (s : SD) (p : Nat) (r : Except Nat NodeD) : (oneF s p r).1.next = s.next := by cases r <;> rfl
theorem do_next (s : SD) (o : OpD) : (doF s o).1.next ≤ s.next + 1 := by
  unfold doF
  split
  · simp
  split
  · simp
  split
  · unfold makeF; split <;> (try simp) <;> split <;> (try simp) <;> split <;> (try simp) <;> split <;> (try simp) <;> split <;> simp
  split
  · unfold delF; split <;> (try simp) <;> split <;> simp
  split
  · unfold callF; split <;> (try simp) <;> split <;> (try simp) <;> split <;> (try simp) <;> split <;> simp
  split
  · rw [one_next]; omega
  split
  · rw [one_next]; omega
  split
  · rw [one_next]; omega
  · rw [one_next]; omega
theorem run_next (s : SD) (ops : List OpV) : (runF s ops).next ≤ s.next + ops.length := by
  induction ops generalizing s with
  | nil => simp [runF]
  | cons x ops ih =>
    have h1 := ih (doF s x.o).1
    have h2 := do_next s x.o
    show (runF (doF s x.o).1 ops).next ≤ _
    rw [List.length_cons]
    omega
theorem run_wf {A : HP} {s : SD} (h : Wf s) {ops : List OpV} (ho : ∀ x ∈ ops, OpA A x) : Wf (runF s ops) := by
  induction ops generalizing s with
  | nil => exact h
  | cons x ops ih =>
    have hx := ho x (by simp)
    exact ih (do_wf h ⟨hx.mode, hx.atime, hx.mtime⟩) fun y hy => ho y (by simp [hy])
theorem store_wf {n : Nat} (h : 1 ≤ n ∧ n ≤ 4096) : Wf (storeF n) := by
  have h1 := root_wf (c := storeCfg n) (storeCfg_in (by omega)) (by show ¬ ((n : Int) < 1 ∨ 4096 < (n : Int)); omega) (by show userF ann = true; decide) (by show userF staff = true; decide)
  exact h1

end
section
attribute [local go_sem] F30.t6_eq F30.t7_eq F30.t8_eq F30.t4_eq
theorem grown_any [Gives A Tabs] {a : Option Addr} {c : Nat} {ops : List OpV} (hP : OpsP A (.slice a ops.length c) ops) (hw : wtL ops ≤ 8388608) (h : St w0 A w) :
    Calls Tryd.prog 30 #[.slice a ops.length c] w fun e w' => ∃ b, St w0 (StoreP b 0 0 (runF (storeF 100) ops) * A) w' ∧ e = .returned (.pointer (some ⟨b, 0, none⟩)) := by
  refine F30.calls (by simp) ?_
  unfold F30.code
  have hfew := wt_len ops
  simp -dsimp -implicitDefEqProofs (disch := omega) only [go_sem, reqD_of, dec_t, dec_f, wrap_i64, wrap_u32, wrap_u64, wrap_u8]
  refine (store_any (n := 100) (by decide) h).mono ?_
  rintro e w1 ⟨b, h1, rfl⟩
  simp -dsimp -implicitDefEqProofs (disch := omega) only [go_sem, reqD_of, dec_t, dec_f, wrap_i64, wrap_u32, wrap_u64, wrap_u8]
  refine loop_intro (fun e w' => e.ds = [] ∧ e.ρ 0 = .slice a ops.length c ∧ e.ρ 3 = .pointer (some ⟨b, 0, none⟩) ∧ ∃ i : Nat, i ≤ ops.length ∧ e.ρ 4 = .int .i64 i ∧ St w0 (StoreP b 0 0 (runF (storeF 100) (ops.take i)) * A) w')
    (fun e _ => match e.ρ 4 with | .int _ k => (ops.length - k).toNat | _ => 0) ?_ ?_
  · exact ⟨by simp -dsimp -implicitDefEqProofs only [go_sem], by simp -dsimp -implicitDefEqProofs only [go_sem], by simp -dsimp -implicitDefEqProofs only [go_sem], 0, by omega, by simp -dsimp -implicitDefEqProofs only [go_sem], h1⟩
  clear h h1
  rintro e w ⟨hd, e0, e3, i, hi, e4, h⟩
  by_cases hlt : (i : Int) < ops.length
  case neg =>
    have : i = ops.length := by omega
    subst this
    rw [List.take_length] at h
    simp -dsimp -implicitDefEqProofs (disch := omega) only [go_sem, reqD_of, dec_t, dec_f, wrap_i64, wrap_u32, wrap_u64, wrap_u8, hd, e0, e3, e4, hlt]
    exact ⟨b, h, rfl⟩
  have hil : i < ops.length := by omega
  obtain ⟨_, a', c', hv, _, hat⟩ := St.rowsAt opVL_len (by decide) (h.right.ent hP.rd)
  simp only [Value.slice.injEq, true_and] at hv
  obtain ⟨rfl, rfl⟩ := hv
  obtain ⟨g, o, rfl, hrow, _⟩ := hat i hil
  have hx := hP.each _ (List.getElem_mem hil)
  have hwx := wt_mem (List.getElem_mem hil)
  have hnx := run_next (storeF 100) (ops.take i)
  have hn2 : (storeF 100).next = 2 := rfl
  have hln : (ops.take i).length = i := by simp; omega
  haveI : Gives A (RdB ops[i].v ops[i].o.data) := ⟨hx.data⟩
  simp -dsimp -implicitDefEqProofs (disch := omega) only [go_sem, reqD_of, dec_t, dec_f, wrap_i64, wrap_u32, wrap_u64, wrap_u8, hd, e0, e3, e4, hlt, hrow]
  refine (do_any (o := ops[i].o) (vd := ops[i].v) (hx.in_ (by omega)) hx.kind (by omega) h).mono ?_
  rintro e' w1 ⟨h1, rfl⟩
  rw [← run_take _ hil] at h1
  simp -dsimp -implicitDefEqProofs (disch := omega) only [go_sem, reqD_of, dec_t, dec_f, wrap_i64, wrap_u32, wrap_u64, wrap_u8, hd, e0, e3, e4]
  exact ⟨⟨i + 1, by omega, by omega, h1⟩, by omega⟩
end
end
end Go.Proofs.YtijnmokpihhhcaaDoor

namespace Go.Proofs.YtijnmokpihhhcaaDoor
open Go
set_option linter.unusedVariables false
set_option linter.unusedSimpArgs false
set_option maxRecDepth 100000

def pickF (c : Int) (n : Nat) : Nat := ((if c < 0 then -(c + 1) else c) % n).toNat
theorem pickF_lt {c : Int} {n : Nat} (h : 0 < n) : pickF c n < n := by
  have h1 := Int.emod_nonneg (if c < 0 then -(c + 1) else c) (b := (n : Int)) (by omega)
  have h2 := Int.emod_lt_of_pos (if c < 0 then -(c + 1) else c) (b := (n : Int)) (by omega)
  unfold pickF; omega

/-! ### Letters -/

theorem decL_low {b : UInt8} {l : List UInt8} (h : b.toNat < 128) : decL (b :: l) = (b.toNat, 1) := by
  show Lib.decodeN (l.length + 1) b.toNat _ _ _ = _
  unfold Lib.decodeN
  rw [if_pos h]
theorem good_low {b : UInt8} {l : List UInt8} (h : b.toNat < 128) (h0 : b ≠ 0) : good (b :: l) = good l := by
  rw [good_cons (by simp), decL_low h]
  have : (b.toNat == 0) = false := by simpa using fun e => h0 (UInt8.toNat_inj.1 e)
  have h2 : (b.toNat == 65533) = false := by simp; omega
  simp [this, h2]
def lettersF (i : Nat) : List UInt8 := [UInt8.ofNat (97 + i % 26), UInt8.ofNat (97 + i / 26 % 26), UInt8.ofNat (97 + i / 676 % 26)]
theorem letter_nat {k : Nat} (h : k < 26) : (UInt8.ofNat (97 + k)).toNat = 97 + k := by simp; omega
theorem letter_ne {k : Nat} (h : k < 26) {c : UInt8} (hc : c.toNat < 97) : UInt8.ofNat (97 + k) ≠ c := fun e => by
  have := congrArg UInt8.toNat e
  rw [letter_nat h] at this
  omega
theorem letters_ok (i : Nat) : okName (lettersF i) = true := by
  have h1 : i % 26 < 26 := Nat.mod_lt _ (by decide)
  have h2 : i / 26 % 26 < 26 := Nat.mod_lt _ (by decide)
  have h3 : i / 676 % 26 < 26 := Nat.mod_lt _ (by decide)
  have g : good (lettersF i) = true := by
    unfold lettersF
    rw [good_low (by rw [letter_nat h1]; omega) (letter_ne h1 (by decide)), good_low (by rw [letter_nat h2]; omega) (letter_ne h2 (by decide)), good_low (by rw [letter_nat h3]; omega) (letter_ne h3 (by decide))]
    exact good_nil
  have m : (47 : UInt8) ∉ lettersF i := by
    simp only [lettersF, List.mem_cons, List.not_mem_nil, or_false, not_or]
    exact ⟨fun e => letter_ne h1 (by decide) e.symm, fun e => letter_ne h2 (by decide) e.symm, fun e => letter_ne h3 (by decide) e.symm⟩
  unfold okName
  rw [g]
  have d : dots (lettersF i) = false := by simp [dots, lettersF]
  simp [d, m, show (lettersF i).length = 3 from rfl]
theorem letters_inj {i j : Nat} (hi : i < 17576) (hj : j < 17576) (e : lettersF i = lettersF j) : i = j := by
  simp only [lettersF, List.cons.injEq, and_true] at e
  obtain ⟨a, b, c⟩ := e
  have a := congrArg UInt8.toNat a
  have b := congrArg UInt8.toNat b
  have c := congrArg UInt8.toNat c
  rw [letter_nat (Nat.mod_lt _ (by decide)), letter_nat (Nat.mod_lt _ (by decide))] at a b c
  omega

/-! ### The store, by its paths -/

def kidD (x : Nat × Nat) : NodeD := ⟨⟨x.1, 1, lettersF x.2, 384, ann, staff, ann, 0, 0, 0, 0, 0, 0⟩, []⟩
def pathS (nx : Nat) (P : List (Nat × Nat)) : SD := ⟨40, nx, rootD (storeCfg 40) :: P.map kidD⟩
theorem pathS_nil : storeF 40 = pathS 2 [] := rfl
structure PInv (i nx last : Nat) (P : List (Nat × Nat)) : Prop where
  rise : (P.map (·.1)).Pairwise (· < ·)
  lo : ∀ x ∈ P, 2 ≤ x.1 ∧ x.1 < nx
  ix : ∀ x ∈ P, x.2 < i
  few : P.length ≤ 39
  la : last < nx
  n1 : nx ≤ i + 2
  n2 : 2 ≤ nx
theorem PInv.nil : PInv 0 2 1 [] := ⟨by simp, by simp, by simp, by simp, by decide, by decide, by decide⟩

theorem kid_isKid {x : Nat × Nat} (h : 2 ≤ x.1) (p : Nat) : isKid p (kidD x) = (1 == p) := by
  have : (x.1 == 1) = false := by simp; omega
  show (1 == p && !(x.1 == 1)) = _
  simp [this]
theorem root_isKid (p : Nat) : isKid p (rootD (storeCfg 40)) = false := by
  show (1 == p && !(1 == 1)) = _
  simp
theorem path_kids {nx : Nat} {P : List (Nat × Nat)} (h : ∀ x ∈ P, 2 ≤ x.1) (p : Nat) : kidsF (pathS nx P).L p = if p = 1 then P.map (·.1) else [] := by
  unfold kidsF pathS
  rw [List.filter_cons, root_isKid]
  simp only [Bool.false_eq_true, if_false]
  rw [List.filter_map]
  by_cases hp : p = 1
  · subst hp
    rw [if_pos rfl, List.filter_eq_self.2 fun x hx => by show isKid 1 (kidD x) = true; rw [kid_isKid (h x hx)]; rfl, List.map_map]
    rfl
  · rw [if_neg hp, List.filter_eq_nil_iff.2 fun x hx => by show ¬ isKid p (kidD x) = true; rw [kid_isKid (h x hx)]; simpa using fun e => hp e.symm]
    rfl
theorem path_root (nx : Nat) (P : List (Nat × Nat)) : findN (pathS nx P).L 1 = some (rootD (storeCfg 40)) := rfl
theorem path_find {nx : Nat} {P : List (Nat × Nat)} (h : ∀ x ∈ P, 2 ≤ x.1) (hr : (P.map (·.1)).Pairwise (· < ·)) {x : Nat × Nat} (hx : x ∈ P) : findN (pathS nx P).L x.1 = some (kidD x) := by
  have h1 := h x hx
  show List.find? _ (_ :: _) = _
  rw [List.find?_cons]
  have : ((rootD (storeCfg 40)).i.path == x.1) = false := by show ((1 : Nat) == x.1) = false; simp; omega
  rw [this]
  have hr' : (P.map kidD).Pairwise fun a b => a.i.path < b.i.path := by
    rw [rise_paths, List.map_map]; exact hr
  exact find_of hr' (List.mem_map_of_mem hx)

def dropO (p : Nat) : OpD := ⟨2, p, [], 0, infZ, 0, [], 0⟩
theorem dropO_in (p : Nat) : OpIn (dropO p) :=
  ⟨⟨by show (0 : Nat) < _; decide, by show (0 : Nat) < _; decide, by show (0 : Nat) < _; decide⟩, by show (0 : Nat) < _; decide, by show (0 : Nat) < _; decide, by show _ ≤ (0 : Int); decide, by show (0 : Int) ≤ _; decide, by show (0 : Nat) ≤ _; decide, by show (0 : Nat) ≤ _; decide, by show (0 : Nat) ≤ _; decide, by show (0 : Nat) ≤ _; decide, by show (0 : Nat) ≤ _; decide, by show (0 : Nat) ≤ _; decide⟩

theorem path_drop {nx : Nat} {P : List (Nat × Nat)} (h : ∀ x ∈ P, 2 ≤ x.1) (hr : (P.map (·.1)).Pairwise (· < ·)) {k : Nat} (hk : k < P.length) :
    doF (pathS nx P) (dropO P[k].1) = (pathS nx (P.eraseIdx k), P[k].1, 0) := by
  have hx : P[k] ∈ P := List.getElem_mem hk
  have h2 := h _ hx
  unfold doF
  rw [if_neg (by show ¬ (2 < 1 ∨ 7 < 2); decide)]
  have hf : findN (pathS nx P).L (dropO P[k].1).path = some (kidD P[k]) := path_find h hr hx
  rw [hf]
  show (if (2 : Nat) = 1 then _ else if (2 : Nat) = 2 then delF (pathS nx P) (kidD P[k]) else _) = _
  rw [if_neg (by decide), if_pos rfl]
  unfold delF
  have hp : (kidD P[k]).i.path = P[k].1 := rfl
  rw [hp, if_neg (show ¬ P[k].1 = 1 by omega), path_kids h, if_neg (show ¬ P[k].1 = 1 by omega), if_neg (by simp)]
  refine Prod.ext ?_ rfl
  show SD.mk 40 nx (dropN (pathS nx P).L P[k].1) = pathS nx (P.eraseIdx k)
  unfold pathS dropN
  rw [List.filter_cons, if_pos (by show (!((1 : Nat) == P[k].1)) = true; simp; omega), List.filter_map]
  have : P.filter ((fun n => !(n.i.path == P[k].1)) ∘ kidD) = P.eraseIdx k := by
    clear hf h
    induction P generalizing k with
    | nil => simp at hk
    | cons y P ih =>
      rw [List.map_cons, List.pairwise_cons] at hr
      cases k with
      | zero =>
        simp only [List.eraseIdx_zero, List.tail_cons, List.getElem_cons_zero, List.filter_cons, Function.comp]
        rw [if_neg (by simp [kidD]), List.filter_eq_self.2]
        intro x hx
        have := hr.1 x.1 (List.mem_map_of_mem hx)
        simp [kidD]; omega
      | succ k =>
        have hk' : k < P.length := by simpa using hk
        simp only [List.eraseIdx_cons_succ, List.getElem_cons_succ, List.filter_cons]
        have h3 := hr.1 P[k].1 (List.mem_map_of_mem (List.getElem_mem hk'))
        rw [if_pos (by simp [kidD]; omega)]
        simp only [List.getElem_cons_succ] at h2 hx hp
        rw [ih hr.2 hk' (List.getElem_mem hk') h2 rfl]
  rw [this]

theorem path_make {i nx last : Nat} {P : List (Nat × Nat)} (h : PInv i nx last P) (hi : i < 2000) (hl : P.length < 39) :
    doF (pathS nx P) (makF 1 (lettersF i) 384) = (pathS (nx + 1) (P ++ [(nx, i)]), nx, 0) := by
  unfold doF
  rw [if_neg (by show ¬ (1 < 1 ∨ 7 < 1); decide)]
  have hf : findN (pathS nx P).L (makF 1 (lettersF i) 384).path = some (rootD (storeCfg 40)) := path_root nx P
  rw [hf]
  show (if (1 : Nat) = 1 then makeF (pathS nx P) (rootD (storeCfg 40)) (makF 1 (lettersF i) 384).node else _) = _
  rw [if_pos rfl]
  unfold makeF
  have e1 : dirF (rootD (storeCfg 40)).i.mode = true := by decide
  have e2 : modeF (makF 1 (lettersF i) 384).node.mode = true := by show modeF 384 = true; decide
  have e3 : userF (makF 1 (lettersF i) 384).node.uid = true := by show userF ann = true; decide
  have e4 : userF (makF 1 (lettersF i) 384).node.gid = true := by show userF staff = true; decide
  have e5 : userF (makF 1 (lettersF i) 384).node.muid = true := by show userF ann = true; decide
  have e6 : okName (makF 1 (lettersF i) 384).node.name = true := letters_ok i
  have e7 : childF (pathS nx P).L (rootD (storeCfg 40)).i.path (makF 1 (lettersF i) 384).node.name = none := by
    unfold childF
    rw [Option.map_eq_none_iff, List.find?_eq_none]
    intro n hn
    simp only [pathS, List.mem_cons, List.mem_map] at hn
    rcases hn with rfl | ⟨x, hx, rfl⟩
    · rw [root_isKid]; simp
    · have hxi := h.ix x hx
      have : (kidD x).i.name ≠ lettersF i := fun e => by
        have := letters_inj (i := x.2) (j := i) (by omega) (by omega) e
        omega
      show ¬ (_ && (kidD x).i.name == lettersF i) = true
      simp [this]
  have e8 : ¬ (pathS nx P).most ≤ (pathS nx P).L.length := by
    show ¬ 40 ≤ (_ :: P.map kidD).length
    simp; omega
  rw [e1, e2, e3, e4, e5, e6, e7]
  simp only [Bool.not_true, Bool.and_self, Bool.false_eq_true, if_false, Option.isSome_none]
  rw [if_neg e8]
  refine Prod.ext ?_ rfl
  show SD.mk 40 (nx + 1) ((rootD (storeCfg 40) :: P.map kidD) ++ [_]) = SD.mk 40 (nx + 1) (rootD (storeCfg 40) :: (P ++ [(nx, i)]).map kidD)
  rw [List.map_append]
  rfl

theorem PInv.drop {i nx last : Nat} {P : List (Nat × Nat)} (h : PInv i nx last P) {k : Nat} (hk : k < P.length) : PInv (i + 1) nx last (P.eraseIdx k) := by
  have hs : (P.eraseIdx k).Sublist P := List.eraseIdx_sublist ..
  exact ⟨h.rise.sublist (hs.map _), fun x hx => h.lo x (hs.subset hx), fun x hx => by have := h.ix x (hs.subset hx); omega, Nat.le_trans hs.length_le h.few, h.la, by have := h.n1; omega, h.n2⟩
theorem PInv.make {i nx last : Nat} {P : List (Nat × Nat)} (h : PInv i nx last P) (hl : P.length < 39) : PInv (i + 1) (nx + 1) nx (P ++ [(nx, i)]) := by
  refine ⟨?_, fun x hx => ?_, fun x hx => ?_, by simp; omega, by omega, by have := h.n1; omega, by have := h.n2; omega⟩
  · rw [List.map_append, List.pairwise_append]
    refine ⟨h.rise, by simp, fun a ha b hb => ?_⟩
    simp only [List.map_cons, List.map_nil, List.mem_singleton] at hb
    subst hb
    obtain ⟨x, hx, rfl⟩ := List.mem_map.1 ha
    exact (h.lo x hx).2
  · rcases List.mem_append.1 hx with hx | hx
    · have := h.lo x hx; omega
    · simp only [List.mem_singleton] at hx; subst hx; exact ⟨h.n2, by show nx < nx + 1; omega⟩
  · rcases List.mem_append.1 hx with hx | hx
    · have := h.ix x hx; omega
    · simp only [List.mem_singleton] at hx; subst hx; show i < i + 1; omega

/-- The child behind the first so many. -/
theorem rise_find {l : List Nat} (hl : l.Pairwise (· < ·)) {j : Nat} {at_ : Nat} (hj : ∀ k (hk : k < l.length), k < j → l[k] ≤ at_) (hb : ∀ k (hk : k < l.length), j ≤ k → at_ < l[k]) : l.find? (fun k => decide (at_ < k)) = l[j]? := by
  induction l generalizing j with
  | nil => rfl
  | cons y l ih =>
    rw [List.pairwise_cons] at hl
    cases j with
    | zero =>
      have := hb 0 (by simp) (Nat.le_refl _)
      rw [List.find?_cons]
      simp only [List.getElem_cons_zero] at this
      simp [this]
    | succ j =>
      have h0 := hj 0 (by simp) (by omega)
      simp only [List.getElem_cons_zero] at h0
      rw [List.find?_cons]
      have : decide (at_ < y) = false := by simp; omega
      rw [this]
      simp only [List.getElem?_cons_succ]
      refine ih hl.2 (fun k hk hkj => ?_) fun k hk hkj => ?_
      · have := hj (k + 1) (by simpa using hk) (by omega); simpa using this
      · have := hb (k + 1) (by simpa using hk) (by omega); simpa using this
theorem path_after {i nx last : Nat} {P : List (Nat × Nat)} (h : PInv i nx last P) (j : Nat) (hj : j ≤ P.length) :
    afterS (pathS nx P) 1 (if hk : 0 < j then (P[j - 1]'(by omega)).1 else 0) = (P.map (·.1))[j]? := by
  have h2 : ∀ x ∈ P, 2 ≤ x.1 := fun x hx => (h.lo x hx).1
  have hr := h.rise
  unfold afterS
  rw [path_root]
  show afterF (pathS nx P).L 1 _ = _
  unfold afterF
  rw [path_kids h2, if_pos rfl]
  rw [List.pairwise_iff_getElem] at hr
  refine rise_find h.rise (fun k hk hkj => ?_) fun k hk hkj => ?_
  · simp only [List.length_map] at hk
    rw [dif_pos (by omega)]
    rcases Nat.lt_or_ge k (j - 1) with hlt | hge
    · have := hr k (j - 1) (by simpa using hk) (by simp; omega) hlt
      simp only [List.getElem_map] at this ⊢
      omega
    · have : k = j - 1 := by omega
      subst this
      simp
  · simp only [List.length_map] at hk
    by_cases h0 : 0 < j
    · rw [dif_pos h0]
      have := hr (j - 1) k (by simp; omega) (by simpa using hk) (by omega)
      simpa using this
    · rw [dif_neg h0]
      have := h2 P[k] (List.getElem_mem hk)
      simp only [List.getElem_map]
      omega
end Go.Proofs.YtijnmokpihhhcaaDoor

namespace Go.Proofs.YtijnmokpihhhcaaDoor
open Go

/-- What the loop's own code promises of one round; A: what its variables take. -/
def RoundOkA {α : Type} (P : Program) (w0 : World) (e : FA) (ps : Array Tmp) (asg body : Cd) (Pass : α → Array Value → HP) (Ok : List α → Prop) (J : List α → HP) (X : Code → List α → HP) : Prop :=
  ∀ (l : Nat) (pre : List α) (x : α) (args : Array Value) (G : HP) (W : World), Ok (pre ++ [x]) → St w0 (J pre * (Pass x args * G)) W →
    args.size = ps.size ∧ cwRE P l asg (onlyP fun e1 W1 => ∃ A : HP, St w0 (A * (J pre * (Pass x args * G))) W1 ∧
      ∀ (G2 : HP) (W2 : World), Ent G2 (LoopHere l) → St w0 (A * (J pre * (Pass x args * G2))) W2 → cwRE P l body (roundQ w0 (J (pre ++ [x]) * G2) fun c => X c (pre ++ [x]) * G2) e1 W2) (putArgs ps.toList args.toList { e with ds := [] }) W

theorem mk_yieldsA {α : Type} {P : Program} {w0 : World} {e : FA} {ps : Array Tmp} {asg body : Cd} {Pass : α → Array Value → HP} {Ok : List α → Prop} {J : List α → HP} {X : Code → List α → HP} {l : Nat} {Rec : LoopState → Option Code → Obj} {Dp : HP}
    (hro : RoundOkA P w0 e ps asg body Pass Ok J X)
    (hrec : LoopRec P l Rec fun args W R => args.size = ps.size ∧ cw P (some l) asg (onlyP fun e1 W1 => W1.heap[l]? = some (Rec .ready none) ∧
      cw P (some l) body (roundP l Rec R) e1 (W1.putObj l (Rec .busy none))) (putArgs ps.toList args.toList { e with ds := [] }) W) :
    YieldsTo P w0 l Pass Ok (fun pre => Blk l (Rec .ready none) * (Dp * J pre)) (fun pre => HP.ex fun c => Blk l (Rec .done (some c)) * (Dp * X c pre)) := by
  intro G pre x args w hok h
  simp only at h ⊢
  refine hrec.yield args w _ h.left.blk ?_
  have h1 : St w0 (J pre * (Pass x args * (Blk l (Rec .ready none) * (Dp * G)))) w := h.ac (by ac_rfl)
  obtain ⟨hsz, hcode⟩ := hro l pre x args _ w hok h1
  refine ⟨hsz, ?_⟩
  refine cw_of_cwD _ _ _ _ _ _ (fun ex e1 W1 hx => ?_) hcode
  cases ex with
  | normal =>
    obtain ⟨A, h2, hb⟩ := hx
    have h3 : St w0 (Blk l (Rec .ready none) * (A * (J pre * (Pass x args * (Dp * G))))) W1 := h2.ac (by ac_rfl)
    refine ⟨h3.blk, ?_⟩
    have h4 := h3.putObj (Rec .busy none)
    have h5 : St w0 (A * (J pre * (Pass x args * (Blk l (Rec .busy none) * (Dp * G))))) (W1.putObj l (Rec .busy none)) := h4.ac (by ac_rfl)
    have hl : Ent (Blk l (Rec .busy none) * (Dp * G)) (LoopHere l) := (Ent.left _ _).trans (Ent.of fun h hb => by
      obtain ⟨r, hr⟩ := hrec.isLoop .busy none
      exact ⟨r, by rw [← hr]; exact hb⟩)
    refine cw_of_cwD _ _ _ _ _ _ (fun ex e2 W2 hx => ?_) (hb _ _ hl h5)
    have stop : ∀ c, St w0 (X c (pre ++ [x]) * (Blk l (Rec .busy none) * (Dp * G))) W2 → W2.heap[l]? = some (Rec .busy none) ∧
        ((Ending.returned (.bool false) = .returned (.bool true) ∧ St w0 ((Blk l (Rec .ready none) * (Dp * J (pre ++ [x]))) * G) (W2.putObj l (Rec .done (some c)))) ∨
          (Ending.returned (.bool false) = .returned (.bool false) ∧ St w0 ((HP.ex fun c => Blk l (Rec .done (some c)) * (Dp * X c (pre ++ [x]))) * G) (W2.putObj l (Rec .done (some c))))) := fun c hx => by
      have h6 : St w0 (Blk l (Rec .busy none) * (Dp * X c (pre ++ [x]) * G)) W2 := hx.ac (by ac_rfl)
      refine ⟨h6.blk, .inr ⟨rfl, ?_⟩⟩
      have h7 := h6.putObj (Rec .done (some c))
      exact (h7.ac (by ac_rfl : _ = (Blk l (Rec .done (some c)) * (Dp * X c (pre ++ [x]))) * G)).ent (Ent.sep (Ent.ex (fun c => Blk l (Rec .done (some c)) * (Dp * X c (pre ++ [x]))) c) (Ent.rfl' _))
    cases ex with
    | normal =>
      have h6 : St w0 (Blk l (Rec .busy none) * (Dp * J (pre ++ [x]) * G)) W2 := St.ac hx (by ac_rfl)
      refine ⟨h6.blk, .inl ⟨rfl, ?_⟩⟩
      exact (h6.putObj (Rec .ready none)).ac (by ac_rfl)
    | ret => exact stop _ hx
    | exit i => exact stop _ hx
    | goto t => exact stop _ hx
    | panic c => exact hx.elim
    | outgrown => exact hx.elim
  | exit i => exact hx.elim
  | goto t => exact hx.elim
  | ret => exact hx.elim
  | panic c => exact hx.elim
  | outgrown => exact hx.elim

theorem range_introA {α : Type} {P : Program} {w0 w : World} {F G G' : HP} {e : FA} {g : Operand} {ps : Array Tmp} {asg body : Cd} {Q : Post} {θ : Tag ((.rangeFunc g ps asg body : Cd), Q, e, w)} (h : St w0 F w) {gf : Nat} {lb : Array Value}
    (hg : e.ev g = .func (.func gf) #[] lb) (hf : fnOk P gf = true) {Pass : α → Array Value → HP} {Ok S : List α → Prop} (J : List α → HP) (X : Code → List α → HP) (h0 : Ent F (J [] * G))
    (hround : RoundOkA P w0 e ps asg body Pass Ok J X) (hcall : IterOk P w0 gf lb Pass Ok S G G')
    (hdone : ∀ (D : Nat) (xs : List α) (w' : World), S xs → St w0 (Blk D (.deferred (some [])) * (J xs * G')) w' → Q .normal { e with ds := { target := .collected D, args := #[] } :: e.ds } w')
    (hstop : ∀ (D : Nat) (c : Code) (pre : List α) (w' : World), St w0 (Blk D (.deferred (some [])) * (X c pre * G')) w' → jumpP Q (some c) { e with ds := { target := .collected D, args := #[] } :: e.ds } w') :
    cwE P (.rangeFunc g ps asg body) Q e w θ := by
  refine ⟨fun l h => (by cases h), gf, lb, hg, hf, fun Rec hrec => ?_⟩
  have h1 := (h.ent h0).alloc (.deferred (some []))
  have h2 := h1.alloc (Rec .ready none)
  have hs : (w.alloc (.deferred (some []))).heap.size = w.heap.size + 1 := World.size_alloc _ _
  rw [hs] at h2
  have hy := mk_yieldsA (Dp := Blk w.heap.size (.deferred (some []))) hround hrec
  refine (hcall _ _ _ _ hy (h2.ac ?_)).mono ?_
  · simp only [loopAt]; ac_rfl
  · rintro ex W ⟨⟨v, rfl⟩, hq⟩
    rcases hq with ⟨xs, hS, hq⟩ | ⟨pre, hq⟩
    · have h3 : St w0 (Blk (w.heap.size + 1) (Rec .ready none) * (Blk w.heap.size (.deferred (some [])) * (J xs * G'))) W := hq.ac (by simp only [loopAt]; ac_rfl)
      exact ⟨.ready, none, h3.blk, by simp, hdone _ xs _ hS (h3.putObj (Rec .exhausted none)).right⟩
    · have hq := hq
      obtain ⟨c, hq⟩ := St.exF hq
      have h3 : St w0 (Blk (w.heap.size + 1) (Rec .done (some c)) * (Blk w.heap.size (.deferred (some [])) * (X c pre * G'))) W := hq.ac (by simp only [loopAt]; ac_rfl)
      exact ⟨.done, some c, h3.blk, by simp, hstop _ c pre _ (h3.putObj (Rec .exhausted (some c))).right⟩

/-- .. in a round of another loop. -/
theorem range_introRA {α : Type} {P : Program} {w0 w : World} {F G G' : HP} {e : FA} {l0 : Nat} {g : Operand} {ps : Array Tmp} {asg body : Cd} {Q : Post} {θ : Tag ((.rangeFunc g ps asg body : Cd), Q, e, w)} (h : St w0 F w) (hl0 : Ent F (LoopHere l0)) {gf : Nat} {lb : Array Value}
    (hg : e.ev g = .func (.func gf) #[] lb) (hf : fnOk P gf = true) {Pass : α → Array Value → HP} {Ok S : List α → Prop} (J : List α → HP) (X : Code → List α → HP) (h0 : Ent F (J [] * G))
    (hround : RoundOkA P w0 e ps asg body Pass Ok J X) (hcall : IterOk P w0 gf lb Pass Ok S G G')
    (hdone : ∀ (xs : List α) (w' : World), S xs → St w0 (J xs * G') w' → Q .normal e w')
    (hstop : ∀ (c : Code) (pre : List α) (w' : World), St w0 (X c pre * G') w' → jumpP Q (some c) e w') :
    cwRE P l0 (.rangeFunc g ps asg body) Q e w θ := by
  refine ⟨fun l hl => ?_, gf, lb, hg, hf, fun Rec hrec => ?_⟩
  · simp only [Option.some.injEq] at hl
    subst hl
    obtain ⟨y, ly, r, hr⟩ := (h.ent hl0).sat
    exact ⟨r, ly _ _ hr⟩
  have h2 := (h.ent h0).alloc (Rec .ready none)
  have hy := mk_yieldsA (Dp := EmpH) hround hrec
  have hE : ∀ (A : HP), Ent A (EmpH * A) := fun A => Ent.of fun h a => ⟨fun _ => none, h, fun _ => .inl rfl, (fun _ _ e => by cases e), hle.rfl' h, trivial, a⟩
  refine (hcall _ _ _ _ hy ((h2.ent (Ent.sep (Ent.rfl' _) (hE _))).ac ?_)).mono ?_
  · simp only [loopAt]; ac_rfl
  · rintro ex W ⟨⟨v, rfl⟩, hq⟩
    have hds : ∀ e : FA, ({ e with ds := (loopAt (some l0) w Rec).2.2 ++ e.ds } : FA) = e := fun e => rfl
    rcases hq with ⟨xs, hS, hq⟩ | ⟨pre, hq⟩
    · have h3 : St w0 (Blk w.heap.size (Rec .ready none) * (EmpH * (J xs * G'))) W := hq.ac (by simp only [loopAt]; ac_rfl)
      refine ⟨.ready, none, h3.blk, by simp, ?_⟩
      rw [hds]
      exact hdone xs _ hS (h3.putObj (Rec .exhausted none)).right.right
    · have hq := hq
      obtain ⟨c, hq⟩ := St.exF hq
      have h3 : St w0 (Blk w.heap.size (Rec .done (some c)) * (EmpH * (X c pre * G'))) W := hq.ac (by simp only [loopAt]; ac_rfl)
      refine ⟨.done, some c, h3.blk, by simp, ?_⟩
      rw [hds]
      exact hstop c pre _ (h3.putObj (Rec .exhausted (some c))).right.right

end Go.Proofs.YtijnmokpihhhcaaDoor

namespace Go.Proofs.YtijnmokpihhhcaaDoor
open Go
set_option linter.unusedVariables false
set_option linter.unusedSimpArgs false
set_option maxRecDepth 100000

/-! ### The plain law -/

/-- What is told of all nodes. -/
def tellL (s : SD) : List Inf := s.L.map (tellF s.L)
theorem tell_len (s : SD) : (tellL s).length = s.L.length := by simp [tellL]
theorem least_at {s : SD} (h : Wf s) {j last : Nat} (hj : ∀ k (hk : k < s.L.length), k < j → s.L[k].i.path ≤ last) (hb : ∀ k (hk : k < s.L.length), j ≤ k → last < s.L[k].i.path) :
    leastV s last = .tuple #[.agg (infL ((tellL s).getD j infZ)).toArray, .bool (decide (j < s.L.length))] := by
  have hf : leastS s last = (s.L.map (·.i.path))[j]? := by
    unfold leastS
    refine rise_find (rise_paths.1 h.rise) (fun k hk hkj => ?_) fun k hk hkj => ?_
    · rw [List.length_map] at hk; simp only [List.getElem_map]; exact hj k hk hkj
    · rw [List.length_map] at hk; simp only [List.getElem_map]; exact hb k hk hkj
  unfold leastV
  rw [hf]
  by_cases hlt : j < s.L.length
  · have e1 : (s.L.map (·.i.path))[j]? = some s.L[j].i.path := by simp [hlt]
    have e2 := find_of h.rise (List.getElem_mem hlt)
    rw [e1]
    simp only [toldV, toldI_some e2, e2, Option.isSome_some]
    have e3 : (tellL s).getD j infZ = tellF s.L s.L[j] := by simp [tellL, List.getD_eq_getElem?_getD, hlt]
    rw [e3, decide_eq_true hlt]
  · have e1 : (s.L.map (·.i.path))[j]? = none := List.getElem?_eq_none (by simpa using Nat.le_of_not_lt hlt)
    rw [e1]
    have e3 : (tellL s).getD j infZ = infZ := by
      rw [List.getD_eq_getElem?_getD, List.getElem?_eq_none (by rw [tell_len]; omega)]; rfl
    rw [e3, decide_eq_false hlt]
theorem least_0 {s : SD} (h : Wf s) : leastV s 0 = .tuple #[.agg (infL ((tellL s).getD 0 infZ)).toArray, .bool (decide (0 < s.L.length))] :=
  least_at h (fun k hk hkj => absurd hkj (by omega)) fun k hk _ => (h.below _ (List.getElem_mem hk)).1
theorem least_s {s : SD} (h : Wf s) {i : Nat} (hi : i < s.L.length) : leastV s ((tellL s).getD i infZ).path = .tuple #[.agg (infL ((tellL s).getD (i + 1) infZ)).toArray, .bool (decide (i + 1 < s.L.length))] := by
  have e3 : ((tellL s).getD i infZ).path = s.L[i].i.path := by simp [tellL, List.getD_eq_getElem?_getD, hi, tellF]
  rw [e3]
  have hr := List.pairwise_iff_getElem.1 h.rise
  refine least_at h (fun k hk hkj => ?_) fun k hk hkj => hr i k hi hk (by omega)
  rcases Nat.lt_or_ge k i with hlt | hge
  · exact Nat.le_of_lt (hr k i hk hi hlt)
  · have : k = i := by omega
    subst this; exact Nat.le_refl _

/-! ### One by one -/

abbrev ptrS (K b : Nat) : HP := Blk K (.cells #[.pointer (some ⟨b, 0, none⟩)] 34 (0, 0))
def PassI (x : Inf) (args : Array Value) : HP := HP.fact (args = #[.agg (infL x).toArray]) EmpH
theorem PassI.open {w0 w : World} {x : Inf} {args : Array Value} {F : HP} (h : St w0 (PassI x args * F) w) : args = #[.agg (infL x).toArray] ∧ St w0 F w := by
  obtain ⟨e, h2⟩ := h.factF
  exact ⟨e, h2.right⟩
theorem PassI.mk {w0 w : World} {F : HP} (x : Inf) (h : St w0 F w) : St w0 (PassI x #[.agg (infL x).toArray] * F) w :=
  (h.ent (Ent.embL F)).ent (Ent.sep (Ent.fact (p := (#[.agg (infL x).toArray] : Array Value) = #[.agg (infL x).toArray]) rfl _) (Ent.rfl' _))

section
variable {w0 w : World} {A : HP}

theorem all_any {b : Nat} (h : St w0 A w) :
    Calls Tryd.prog 49 #[.pointer (some ⟨b, 0, none⟩)] w fun e w' => ∃ K, St w0 (ptrS K b * A) w' ∧ e = .returned (.func (.func 72) #[] #[.pointer (some ⟨K, 0, none⟩)]) := by
  refine F49.calls (by simp) ?_
  unfold F49.code
  simp -dsimp -implicitDefEqProofs (disch := omega) only [go_sem, reqD_of, dec_t, dec_f, wrap_i64, wrap_u32, wrap_u64, wrap_u8]
  refine h.new fun K w1 h1 => ?_
  simp -dsimp -implicitDefEqProofs (disch := omega) only [go_sem, reqD_of, dec_t, dec_f, wrap_i64, wrap_u32, wrap_u64, wrap_u8]
  exact ⟨K, h1, rfl⟩

/-- What is so at each turn: so many rounds are left. -/
def AllI (w0 : World) (s : SD) (b K q : Nat) (J : List Inf → HP) (R : HP) (m : Nat) (e : FA) (w' : World) : Prop :=
  e.ds = [] ∧ e.ρ 0 = .func (.yield q) #[] #[] ∧ e.ρ 1 = .pointer (some ⟨K, 0, none⟩) ∧ ∃ i P : Nat, i ≤ s.L.length ∧ m = s.L.length - i ∧ e.ρ 4 = .bool (decide (i < s.L.length)) ∧ e.ρ 3 = .pointer (some ⟨P, 0, none⟩) ∧
      St w0 (Blk P (.cells (infL ((tellL s).getD i infZ)).toArray 41 (0, 0)) * (StoreP b 0 0 s * (ptrS K b * (J ((tellL s).take i) * R)))) w'
section
attribute [local go_sem] F72.t3_eq
theorem allIter {K b : Nat} {s : SD} {R : HP} (hs : Wf s) :
    IterOk Tryd.prog w0 72 #[.pointer (some ⟨K, 0, none⟩)] PassI (fun pre => ∃ post, pre ++ post = tellL s) (fun xs => xs = tellL s) (StoreP b 0 0 s * (ptrS K b * R)) (StoreP b 0 0 s * (ptrS K b * R)) := by
  intro q w1 J X hy h
  show Calls _ 72 #[.func (.yield q) #[] #[], .pointer (some ⟨K, 0, none⟩)] w1 _
  have hlen := tell_len s
  have hmost := hs.few
  have hm2 := hs.most
  refine F72.calls (by simp) ?_
  unfold F72.code
  have h1 : St w0 (StoreP b 0 0 s * (ptrS K b * (J [] * R))) w1 := h.ac (by ac_rfl)
  simp -dsimp -implicitDefEqProofs (disch := omega) only [go_sem, reqD_of, dec_t, dec_f, wrap_i64, wrap_u32, wrap_u64, wrap_u8, h1.right.cl K]
  refine (least_any (last := 0) h1).mono ?_
  rintro e w2 ⟨h2, rfl⟩
  rw [least_0 hs]
  simp -dsimp -implicitDefEqProofs (disch := omega) only [go_sem, reqD_of, dec_t, dec_f, wrap_i64, wrap_u32, wrap_u64, wrap_u8]
  refine h2.new fun P w3 h3 => ?_
  simp -dsimp -implicitDefEqProofs (disch := omega) only [go_sem, reqD_of, dec_t, dec_f, wrap_i64, wrap_u32, wrap_u64, wrap_u8]
  refine h3.stoAll (b := P) (cs := infL ((tellL s).getD 0 infZ)) rfl rfl (infL_cells _) fun w4 h4 => ?_
  simp -dsimp -implicitDefEqProofs (disch := omega) only [go_sem, reqD_of, dec_t, dec_f, wrap_i64, wrap_u32, wrap_u64, wrap_u8]
  refine loop_rank (AllI w0 s b K q J R) s.L.length ?_ ?_
  · exact ⟨by simp -dsimp -implicitDefEqProofs only [go_sem], by simp -dsimp -implicitDefEqProofs only [go_sem], by simp -dsimp -implicitDefEqProofs only [go_sem], 0, P, by omega, rfl, by simp -dsimp -implicitDefEqProofs only [go_sem], by simp -dsimp -implicitDefEqProofs only [go_sem], h4⟩
  clear h h1 h2 h3 h4
  rintro e w ⟨hd, e0, e1, i, P, hi, hm, e4, e3, h⟩
  by_cases hlt : i < s.L.length
  case neg =>
    have hd4 : decide (i < s.L.length) = false := decide_eq_false hlt
    rw [hd4] at e4
    rw [List.take_of_length_le (by omega)] at h
    simp -dsimp -implicitDefEqProofs (disch := omega) only [go_sem, reqD_of, dec_t, dec_f, wrap_i64, wrap_u32, wrap_u64, wrap_u8, hd, e0, e1, e3, e4]
    exact ⟨⟨_, rfl⟩, .inl ⟨_, rfl, h.right.ac (by ac_rfl)⟩⟩
  have hd4 : decide (i < s.L.length) = true := decide_eq_true hlt
  rw [hd4] at e4
  obtain ⟨x, hx⟩ : ∃ x, x = (tellL s).getD i infZ := ⟨_, rfl⟩
  have hten : (tellL s).take (i + 1) = (tellL s).take i ++ [x] := by
    rw [List.take_succ_eq_append_getElem (by omega), hx, List.getD_eq_getElem?_getD, List.getElem?_eq_getElem (by omega)]; rfl
  have hpost : ∃ post, ((tellL s).take i ++ [x]) ++ post = tellL s := ⟨(tellL s).drop (i + 1), by rw [← hten, List.take_append_drop]⟩
  have hls := least_s hs hlt
  rw [← hx] at hls h
  have hxL : ∀ {w : World} {F : HP}, St w0 (Blk P (.cells (infL x).toArray 41 (0, 0)) * F) w → w.cell? ⟨P, 0, none⟩ = some (.int .u64 x.path) := fun h => h.cells 0
  simp -dsimp -implicitDefEqProofs (disch := omega) only [go_sem, reqD_of, dec_t, dec_f, wrap_i64, wrap_u32, wrap_u64, wrap_u8, hd, e0, e1, e3, e4, h.rowH P 13 rfl]
  have h5 : St w0 (J ((tellL s).take i) * (PassI x #[.agg (infL x).toArray] * (Blk P (.cells (infL x).toArray 41 (0, 0)) * (StoreP b 0 0 s * (ptrS K b * R))))) w := (PassI.mk x h).ac (by ac_rfl)
  refine (hy _ _ x _ _ hpost h5).mono ?_
  rintro e' w7 (⟨rfl, h6⟩ | ⟨rfl, h6⟩)
  · rw [← hten] at h6
    have h7 := h6.ac (show _ = Blk P (.cells (infL x).toArray 41 (0, 0)) * (StoreP b 0 0 s * (ptrS K b * (J ((tellL s).take (i + 1)) * R))) by ac_rfl)
    simp -dsimp -implicitDefEqProofs (disch := omega) only [go_sem, reqD_of, dec_t, dec_f, wrap_i64, wrap_u32, wrap_u64, wrap_u8, hd, e0, e1, e3, e4, h7.rowH P 13 rfl]
    refine h7.right.new fun P' w8 h8 => ?_
    simp -dsimp -implicitDefEqProofs (disch := omega) only [go_sem, reqD_of, dec_t, dec_f, wrap_i64, wrap_u32, wrap_u64, wrap_u8, hd, e0, e1, e3, e4]
    refine h8.stoAll (b := P') (cs := infL x) rfl rfl (infL_cells _) fun w9 h9 => ?_
    simp -dsimp -implicitDefEqProofs (disch := omega) only [go_sem, reqD_of, dec_t, dec_f, wrap_i64, wrap_u32, wrap_u64, wrap_u8, hd, e0, e1, e3, e4, h9.right.right.cl K, h9.cells]
    refine (least_any (last := x.path) (h9.sw2)).mono ?_
    rintro e' w10 ⟨h10, rfl⟩
    rw [hls]
    simp -dsimp -implicitDefEqProofs (disch := omega) only [go_sem, reqD_of, dec_t, dec_f, wrap_i64, wrap_u32, wrap_u64, wrap_u8, hd, e0, e1, e3, e4]
    refine (h10.sw2).stoAll (b := P') (cs := infL ((tellL s).getD (i + 1) infZ)) rfl rfl (infL_cells _) fun w11 h11 => ?_
    simp -dsimp -implicitDefEqProofs (disch := omega) only [go_sem, reqD_of, dec_t, dec_f, wrap_i64, wrap_u32, wrap_u64, wrap_u8, hd, e0, e1, e3, e4]
    refine rank_down (m := s.L.length - (i + 1)) ⟨by simp -dsimp -implicitDefEqProofs only [go_sem, hd], by simp -dsimp -implicitDefEqProofs only [go_sem, e0], by simp -dsimp -implicitDefEqProofs only [go_sem, e1], i + 1, P', by omega, rfl, by simp -dsimp -implicitDefEqProofs only [go_sem], by simp -dsimp -implicitDefEqProofs only [go_sem], h11⟩ (by omega)
  · simp -dsimp -implicitDefEqProofs (disch := omega) only [go_sem, reqD_of, dec_t, dec_f, wrap_i64, wrap_u32, wrap_u64, wrap_u8, hd, e0, e1, e3, e4]
    exact ⟨⟨_, rfl⟩, .inr ⟨_, h6.sw2.right⟩⟩
end
end
end Go.Proofs.YtijnmokpihhhcaaDoor

namespace Go.Proofs.YtijnmokpihhhcaaDoor
open Go
set_option linter.unusedVariables false
set_option linter.unusedSimpArgs false
set_option maxRecDepth 100000

abbrev NodeL (v : Value) (l : List Inf) : HP := RowO 41 13 v l.length (l.flatMap infL)
theorem rowTy_node : rowTy Tryd.prog 69 = some (41, 13, 128, infL infZ) := by kernel_rfl
theorem infL_all (l : List Inf) : ∀ v ∈ l.flatMap infL, isCell v = true := by
  intro v hv
  obtain ⟨x, _, hx⟩ := List.mem_flatMap.1 hv
  exact infL_cells x v hx
/-- The list so far, in its variable. -/
def ListJ (S : Nat) (l : List Inf) : HP := HP.ex fun v => Blk S (.cells #[v] 69 (0, 0)) * NodeL v l
theorem ListJ.open {w0 w : World} {S : Nat} {l : List Inf} {F : HP} (h : St w0 (ListJ S l * F) w) : ∃ v, St w0 (Blk S (.cells #[v] 69 (0, 0)) * (NodeL v l * F)) w := by
  obtain ⟨v, h1⟩ := h.exF
  exact ⟨v, h1.ac (by ac_rfl)⟩
theorem ListJ.mk {S : Nat} {l : List Inf} (v : Value) : Ent (Blk S (.cells #[v] 69 (0, 0)) * NodeL v l) (ListJ S l) := Ent.ex (fun v => Blk S (.cells #[v] 69 (0, 0)) * NodeL v l) v

section
variable {w0 w : World} {A : HP}
section
attribute [local go_sem] F26.t8_eq F26.t5_eq
theorem list_any {b : Nat} {s : SD} (hs : Wf s) (h : St w0 (StoreP b 0 0 s * A) w) :
    Calls Tryd.prog 26 #[.pointer (some ⟨b, 0, none⟩)] w fun e w' => ∃ v, St w0 (NodeL v (tellL s) * (StoreP b 0 0 s * A)) w' ∧ e = .returned v := by
  have hlen := tell_len s
  have hmost := hs.few
  have hm2 := hs.most
  refine F26.calls (by simp) ?_
  unfold F26.code
  simp -dsimp -implicitDefEqProofs (disch := omega) only [go_sem, reqD_of, dec_t, dec_f, wrap_i64, wrap_u32, wrap_u64, wrap_u8]
  refine h.new fun S w1 h1 => ?_
  simp -dsimp -implicitDefEqProofs (disch := omega) only [go_sem, reqD_of, dec_t, dec_f, wrap_i64, wrap_u32, wrap_u64, wrap_u8]
  refine (all_any (b := b) h1).mono ?_
  rintro e w2 ⟨K, h2, rfl⟩
  simp -dsimp -implicitDefEqProofs (disch := omega) only [go_sem, reqD_of, dec_t, dec_f, wrap_i64, wrap_u32, wrap_u64, wrap_u8]
  have h3 : St w0 (ListJ S [] * (StoreP b 0 0 s * (ptrS K b * A))) w2 := by
    have h3 := (h2.nilR 41 13).ac (show _ = (Blk S (.cells #[.slice none 0 0] 69 (0, 0)) * RowO 41 13 (.slice none 0 0) 0 []) * (StoreP b 0 0 s * (ptrS K b * A)) by ac_rfl)
    exact h3.ent (Ent.sep (ListJ.mk (l := []) (.slice none 0 0)) (Ent.rfl' _))
  refine range_introA h3 (gf := 72) (lb := #[.pointer (some ⟨K, 0, none⟩)]) (by simp -dsimp -implicitDefEqProofs only [go_sem]) fact_fnOk_72 (Pass := PassI)
    (fun pre => ListJ S pre) (fun _ _ => HP.fact False EmpH) (Ent.rfl' _) ?_ (allIter (K := K) (R := A) hs) ?_ ?_
  · intro q pre x args G W1 hpo h6
    have h6 : St w0 (ListJ S pre * (PassI x args * G)) W1 := h6
    obtain ⟨rfl, h7⟩ := PassI.open (h6.ac (by ac_rfl : _ = PassI x args * (ListJ S pre * G)))
    refine ⟨rfl, ?_⟩
    unfold F26.a0
    simp -dsimp -implicitDefEqProofs (disch := omega) only [go_sem, reqD_of, dec_t, dec_f, wrap_i64, wrap_u32, wrap_u64, wrap_u8, List.toList_toArray]
    refine h6.new fun P w5 h8 => ?_
    simp -dsimp -implicitDefEqProofs (disch := omega) only [go_sem, reqD_of, dec_t, dec_f, wrap_i64, wrap_u32, wrap_u64, wrap_u8]
    refine h8.stoAll (b := P) (n := 13) (cs := infL x) rfl rfl (infL_cells x) fun w6 h9 => ?_
    simp -dsimp -implicitDefEqProofs (disch := omega) only [go_sem, reqD_of, dec_t, dec_f, wrap_i64, wrap_u32, wrap_u64, wrap_u8]
    refine ⟨infB P x, h9, fun G2 W2 hl2 h10 => ?_⟩
    clear h6 h7 h8 h9
    have h10 : St w0 (infB P x * (ListJ S pre * (PassI x #[.agg (infL x).toArray] * G2))) W2 := h10
    have hpl : pre.length + 1 ≤ s.L.length := by
      obtain ⟨post, hp⟩ := hpo
      have := congrArg List.length hp
      simp only [List.length_append, List.length_cons, List.length_nil] at this
      omega
    obtain ⟨vo, h11⟩ := ListJ.open (h10.ac (by ac_rfl : _ = ListJ S pre * (infB P x * (PassI x #[.agg (infL x).toArray] * G2))))
    obtain ⟨ao, co, rfl, _⟩ := h11.rowForm vo
    unfold F26.b0
    simp -dsimp -implicitDefEqProofs (disch := omega) only [go_sem, reqD_of, dec_t, dec_f, wrap_i64, wrap_u32, wrap_u64, wrap_u8, h11.cl S, h11.rowH P 13 rfl]
    refine h11.lit (t := 69) (n := 1) (cells := infL x) rowTy_node rfl (by decide) (by decide) fun v1 w1 h14 => ?_
    simp -dsimp -implicitDefEqProofs (disch := omega) only [go_sem, reqD_of, dec_t, dec_f, wrap_i64, wrap_u32, wrap_u64, wrap_u8]
    refine h14.appR (v := .slice ao pre.length co) (x := v1) rowTy_node Tryd.underlying69 (infL_cells x) (by simp) (show _ ≤ 9223372036854775807 by omega) (by omega) fun v3 w3 h17 => ?_
    obtain ⟨a3, c3, rfl, _⟩ := h17.rowForm v3
    simp -dsimp -implicitDefEqProofs (disch := omega) only [go_sem, reqD_of, dec_t, dec_f, wrap_i64, wrap_u32, wrap_u64, wrap_u8]
    refine h17.sto (b := S) (off := 0) (by simp) rfl fun w4 h18 => ?_
    simp only [List.setIfInBounds_toArray, List.set_cons_succ, List.set_cons_zero] at h18
    simp -dsimp -implicitDefEqProofs (disch := omega) only [go_sem, reqD_of, dec_t, dec_f, wrap_i64, wrap_u32, wrap_u64, wrap_u8]
    have hp1 : (pre ++ [x]).length = pre.length + 1 := by simp
    have hp2 : (pre ++ [x]).flatMap infL = pre.flatMap infL ++ infL x := by simp
    have h19 : St w0 ((Blk S (.cells #[.slice a3 (pre.length + 1) c3] 69 (0, 0)) * NodeL (.slice a3 (pre.length + 1) c3) (pre ++ [x])) * G2) w4 := by
      show St w0 ((Blk S (.cells #[.slice a3 (pre.length + 1) c3] 69 (0, 0)) * RowO _ _ _ _ _) * G2) w4
      rw [hp1, hp2]
      exact (h18.right.ent (Ent.sep (Ent.rfl' _) (Ent.sep (Ent.rfl' _) ((Ent.right _ _).trans (Ent.right _ _))))).ac (by ac_rfl)
    exact h19.ent (Ent.sep (ListJ.mk _) (Ent.rfl' _))
  · intro D xs w' hS h6
    subst hS
    obtain ⟨v, h7⟩ := ListJ.open (h6.ac (by ac_rfl : _ = ListJ S (tellL s) * (Blk D (.deferred (some [])) * (StoreP b 0 0 s * (ptrS K b * A)))))
    obtain ⟨a, c, rfl, _⟩ := h7.rowForm v
    simp -dsimp -implicitDefEqProofs (disch := omega) only [go_sem, reqD_of, dec_t, dec_f, wrap_i64, wrap_u32, wrap_u64, wrap_u8, h7.cl S]
    refine St.mark1 (D := D) (h7.ac (by show _ = Blk D (.deferred (some [])) * (Blk S (.cells #[.slice a (tellL s).length c] 69 (0, 0)) * (ptrS K b * (NodeL (.slice a (tellL s).length c) (tellL s) * (StoreP b 0 0 s * A)))); ac_rfl)) fun w3 h10 => ?_
    exact ⟨_, h10.right.right.right, rfl⟩
  · intro D c pre w' h6
    exact (h6.sw2.factF).1.elim
end
end
end Go.Proofs.YtijnmokpihhhcaaDoor

namespace Go.Proofs.YtijnmokpihhhcaaDoor
open Go
set_option linter.unusedVariables false
set_option linter.unusedSimpArgs false

/-! ### The root's name -/

def RN (s : SD) : Prop := ∀ n ∈ s.L, n.i.path = 1 → n.i.name = [47]
theorem calm_root {s : SD} {o : OpD} {n' n : NodeD} (h : Wf s) (ho : OpOk o) (hr : calmF s o = .ok n') (hf : findN s.L o.path = some n) (h1 : n.i.path = 1) : n'.i.name = n.i.name := by
  by_cases h3 : o.kind = 3
  · unfold calmF at hr
    rw [if_neg (by omega), hf] at hr
    simp only at hr
    rw [if_pos h3, if_pos h1] at hr
    cases hr
  · obtain ⟨m, hm, hmp, _, hn⟩ := calm_ok h ho hr
    obtain ⟨hn1, hn2⟩ := find_some hf
    have : m = n := rise_inj h.rise hm hn1 (by rw [hmp, hn2])
    rw [← this]
    exact hn h3
theorem rn_do {s : SD} {o : OpD} (h : Wf s) (ho : OpOk o) (hr : RN s) : RN (doF s o).1 := by
  have hroot := h.root
  obtain ⟨r, hrf, _, _⟩ := hroot
  obtain ⟨hr1, hr2⟩ := find_some hrf
  have hnext := (h.below r hr1).2
  by_cases h1 : o.kind = 1
  · unfold doF
    split
    · exact hr
    split
    · exact hr
    rename_i n hf
    first | rw [if_pos h1] | skip
    unfold makeF
    split
    · exact hr
    split
    · exact hr
    split
    · exact hr
    split
    · exact hr
    split
    · exact hr
    intro m hm hm1
    rcases List.mem_append.1 hm with hm | hm
    · exact hr m hm hm1
    · simp only [List.mem_singleton] at hm
      subst hm
      exact absurd hm1 (by show ¬ s.next = 1; omega)
  by_cases h2 : o.kind = 2
  · unfold doF
    split
    · exact hr
    split
    · exact hr
    rename_i n hf
    first | rw [if_neg h1, if_pos h2] | skip
    unfold delF
    split
    · exact hr
    split
    · exact hr
    intro m hm hm1
    exact hr m (List.mem_filter.1 hm).1 hm1
  rw [calm_do h ⟨h1, h2⟩]
  cases hc : calmF s o with
  | error e => exact hr
  | ok n' =>
    obtain ⟨n, hn, hp, k, _⟩ := calm_ok h ho hc
    intro m hm hm1
    rcases upd_mem hm with ⟨rfl, _⟩ | ⟨hm, _⟩
    · have hf := find_of h.rise hn
      rw [hp] at hf
      have hn1 : n.i.path = 1 := by rw [← k.path]; exact hm1
      rw [calm_root h ho hc hf hn1]
      exact hr n hn hn1
    · exact hr m hm hm1
theorem run_rn {A : HP} {s : SD} (h : Wf s) (hr : RN s) {ops : List OpV} (ho : ∀ x ∈ ops, OpA A x) : RN (runF s ops) := by
  induction ops generalizing s with
  | nil => exact hr
  | cons x ops ih =>
    have hx := ho x (by simp)
    exact ih (do_wf h ⟨hx.mode, hx.atime, hx.mtime⟩) (rn_do h ⟨hx.mode, hx.atime, hx.mtime⟩ hr) fun y hy => ho y (by simp [hy])
theorem store_rn (n : Nat) : RN (storeF n) := by
  intro m hm _
  simp only [storeF, List.mem_singleton] at hm
  subst hm
  rfl

/-! ### Places -/

section
variable {s : SD}
theorem head_law (h : Wf s) : ∃ h0 : 0 < s.L.length, s.L[0].i.path = 1 ∧ s.L[0].i.parent = 1 := by
  obtain ⟨r, hrf, hpar, _⟩ := h.root
  obtain ⟨hr1, hr2⟩ := find_some hrf
  obtain ⟨j, hj, hjr⟩ := List.getElem_of_mem hr1
  have h0 : 0 < s.L.length := by omega
  rcases Nat.eq_zero_or_pos j with hz | hz
  · subst hz
    exact ⟨h0, by rw [hjr]; exact hr2, by rw [hjr]; exact hpar⟩
  · have h1 := List.pairwise_iff_getElem.1 h.rise 0 j h0 hj hz
    rw [hjr, hr2] at h1
    have := (h.below _ (List.getElem_mem h0)).1
    omega
theorem not_root (h : Wf s) {i : Nat} (hi : i < s.L.length) (h0 : 0 < i) : s.L[i].i.path ≠ 1 := by
  obtain ⟨h00, hp, _⟩ := head_law h
  have := List.pairwise_iff_getElem.1 h.rise 0 i h00 hi h0
  omega
theorem parent_law (h : Wf s) {i : Nat} (hi : i < s.L.length) (h0 : 0 < i) : ∃ j, ∃ hj : j < s.L.length, j < i ∧ s.L[j].i.path = s.L[i].i.parent ∧ dirF s.L[j].i.mode = true := by
  obtain ⟨hlt, d, hd, hdir⟩ := h.up _ (List.getElem_mem hi) (not_root h hi h0)
  obtain ⟨hd1, hd2⟩ := find_some hd
  obtain ⟨j, hj, hjd⟩ := List.getElem_of_mem hd1
  refine ⟨j, hj, ?_, by rw [hjd, hd2], by rw [hjd]; exact hdir⟩
  rcases Nat.lt_or_ge j i with hji | hji
  · exact hji
  · have : s.L[i].i.path ≤ s.L[j].i.path := by
      rcases Nat.lt_or_ge i j with h1 | h1
      · exact Nat.le_of_lt (List.pairwise_iff_getElem.1 h.rise i j hi hj h1)
      · have : i = j := by omega
        subst this; exact Nat.le_refl _
    rw [hjd, hd2] at this
    omega
/-- How many children each has among the first so many. -/
def kidsUp (s : SD) (i : Nat) : List Int := s.L.map fun y => (((s.L.take i).filter (isKid y.i.path)).length : Int)
theorem up_len (i : Nat) : (kidsUp s i).length = s.L.length := by simp [kidsUp]
theorem up_1 (h : Wf s) : kidsUp s 1 = List.replicate s.L.length 0 := by
  obtain ⟨h0, hp, hpar⟩ := head_law h
  unfold kidsUp
  have ht : s.L.take 1 = [s.L[0]] := by
    have := List.take_succ_eq_append_getElem h0
    simpa using this
  rw [ht]
  refine List.ext_getElem (by simp) fun k h1 h2 => ?_
  simp only [List.getElem_map, List.getElem_replicate, List.filter_cons, List.filter_nil]
  have hk : k < s.L.length := by simpa using h2
  have : isKid (s.L[k]'hk).i.path s.L[0] = false := by
    simp [isKid, hp, hpar]
  rw [this]; rfl
theorem up_succ (h : Wf s) {i j : Nat} (hi : i < s.L.length) (h0 : 0 < i) (hj : j < s.L.length) (hp : s.L[j].i.path = s.L[i].i.parent) :
    kidsUp s (i + 1) = (kidsUp s i).set j ((kidsUp s i)[j]'(by rw [up_len]; exact hj) + 1) := by
  refine List.ext_getElem (by simp [up_len]) fun k h1 h2 => ?_
  have hk : k < s.L.length := by rw [up_len] at h1; exact h1
  have hik := isKid_iff h (List.getElem_mem hi) (p := s.L[k].i.path)
  have hf : ∀ y, (((s.L.take (i + 1)).filter (isKid y)).length : Int) = ((s.L.take i).filter (isKid y)).length + (if isKid y s.L[i] then 1 else 0) := fun y => by
    rw [List.take_succ_eq_append_getElem hi, List.filter_append, List.length_append]
    cases hb : isKid y s.L[i] <;> simp [List.filter_cons, hb]
  rw [List.getElem_set]
  simp only [kidsUp, List.getElem_map, hf]
  by_cases hjk : j = k
  · subst hjk
    have : isKid s.L[j].i.path s.L[i] = true := hik.2 ⟨hp.symm, not_root h hi h0⟩
    rw [if_pos rfl, if_pos this]
  · rw [if_neg hjk]
    have : isKid s.L[k].i.path s.L[i] = false := by
      cases hb : isKid s.L[k].i.path s.L[i] with
      | false => rfl
      | true =>
        have h3 := (hik.1 hb).1
        rcases Nat.lt_trichotomy j k with h4 | h4 | h4
        · have := List.pairwise_iff_getElem.1 h.rise j k hj hk h4; omega
        · exact absurd h4 hjk
        · have := List.pairwise_iff_getElem.1 h.rise k j hk hj h4; omega
    rw [this]; simp
theorem up_all {i : Nat} (hi : i < s.L.length) : (kidsUp s s.L.length)[i]'(by rw [up_len]; exact hi) = ((kidsF s.L s.L[i].i.path).length : Nat) := by
  simp only [kidsUp, List.getElem_map, List.take_length, kidsF, List.length_map]
/-- The last child so far. -/
def lastUp (s : SD) (q i : Nat) : Nat := (kidsF (s.L.take i) q).getLastD 0
theorem last_1 (h : Wf s) (q : Nat) : lastUp s q 1 = 0 := by
  obtain ⟨h0, hp, hpar⟩ := head_law h
  have ht : s.L.take 1 = [s.L[0]] := by
    have := List.take_succ_eq_append_getElem h0
    simpa using this
  unfold lastUp
  rw [ht]
  simp [kidsF, isKid, hp, hpar]
theorem last_succ (h : Wf s) {q k : Nat} (hk : k < s.L.length) (h0 : 0 < k) : lastUp s q (k + 1) = if s.L[k].i.parent = q then s.L[k].i.path else lastUp s q k := by
  unfold lastUp
  rw [List.take_succ_eq_append_getElem hk, kids_app]
  have hik := isKid_iff h (List.getElem_mem hk) (p := q)
  by_cases hq : s.L[k].i.parent = q
  · rw [if_pos hq, if_pos (hik.2 ⟨hq, not_root h hk h0⟩)]
    simp
  · rw [if_neg hq, if_neg (fun hh => hq (hik.1 hh).1)]
theorem last_after (h : Wf s) {i : Nat} (hi : i < s.L.length) (h0 : 0 < i) : afterS s s.L[i].i.parent (lastUp s s.L[i].i.parent i) = some s.L[i].i.path := by
  obtain ⟨j, hj, hji, hjp, _⟩ := parent_law h hi h0
  obtain ⟨q, hq⟩ : ∃ q, q = s.L[i].i.parent := ⟨_, rfl⟩
  rw [← hq] at hjp ⊢
  have hf := find_of h.rise (List.getElem_mem hj)
  rw [hjp] at hf
  unfold afterS
  rw [hf]
  show afterF s.L q _ = _
  unfold afterF
  have hsplit : kidsF s.L q = kidsF (s.L.take i) q ++ s.L[i].i.path :: kidsF (s.L.drop (i + 1)) q := by
    have hk : isKid q s.L[i] = true := (isKid_iff h (List.getElem_mem hi)).2 ⟨hq.symm, not_root h hi h0⟩
    conv => lhs; rw [← List.take_append_drop i s.L, List.drop_eq_getElem_cons hi]
    simp only [kidsF, List.filter_append, List.filter_cons, hk, if_true, List.map_append, List.map_cons]
  have hr := kids_rise h q
  rw [hsplit] at hr ⊢
  rw [List.pairwise_append] at hr
  obtain ⟨r1, r2, r3⟩ := hr
  rw [List.find?_append, List.find?_eq_none.2, Option.none_or, List.find?_cons]
  · have : decide (lastUp s q i < s.L[i].i.path) = true := by
      unfold lastUp
      cases hl : (kidsF (s.L.take i) q).getLast? with
      | none =>
        rw [List.getLast?_eq_none_iff] at hl
        rw [hl]
        have := (h.below _ (List.getElem_mem hi)).1
        simp; omega
      | some z =>
        have hz := List.mem_of_getLast? hl
        rw [List.getLastD_eq_getLast?, hl]
        exact decide_eq_true (r3 z hz _ (by simp))
    rw [this]
  · intro z hz
    have hle : z ≤ lastUp s q i := by
      unfold lastUp
      cases hl : (kidsF (s.L.take i) q).getLast? with
      | none =>
        rw [List.getLast?_eq_none_iff] at hl
        rw [hl] at hz; cases hz
      | some y =>
        rw [List.getLastD_eq_getLast?, hl]
        obtain ⟨k, hk, rfl⟩ := List.getElem_of_mem hz
        rw [List.getLast?_eq_getElem?] at hl
        obtain ⟨hy1, hy2⟩ := List.getElem?_eq_some_iff.1 hl
        show _ ≤ y
        rw [← hy2]
        rcases Nat.lt_or_ge k ((kidsF (s.L.take i) q).length - 1) with h4 | h4
        · exact Nat.le_of_lt (List.pairwise_iff_getElem.1 r1 k _ hk hy1 h4)
        · have : k = (kidsF (s.L.take i) q).length - 1 := by omega
          subst this; exact Nat.le_refl _
    simp; omega
end
end Go.Proofs.YtijnmokpihhhcaaDoor

namespace Go.Proofs.YtijnmokpihhhcaaDoor
open Go
set_option linter.unusedVariables false
set_option linter.unusedSimpArgs false
set_option maxRecDepth 100000

theorem St.infAt {w0 w : World} {A : HP} (h : St w0 A w) {a : Option Addr} {c : Nat} {l : List Inf} (hr : Ent A (Reads 13 (.slice a l.length c) l.length (l.flatMap infL))) {i : Nat} (hi : i < l.length) :
    ∃ g o, a = some ⟨g, o, none⟩ ∧ rowV w ⟨g, o + i * 13, none⟩ 13 = some (.agg (infL l[i]).toArray) ∧ ∀ j, j < 13 → w.cell? ⟨g, o + i * 13 + j, none⟩ = (infL l[i])[j]? := by
  obtain ⟨_, a', c', hv, _, hat⟩ := St.rowsAt (enc := infL) (l := l) (k := 13) (fun _ => rfl) (by decide) (h.ent hr)
  simp only [Value.slice.injEq, true_and] at hv
  obtain ⟨rfl, rfl⟩ := hv
  exact hat i hi
/-- At a list whose place is known. -/
theorem St.infG {w0 w : World} {A : HP} (h : St w0 A w) {g o c : Nat} {l : List Inf} (hr : Ent A (Reads 13 (.slice (some ⟨g, o, none⟩) l.length c) l.length (l.flatMap infL))) {i : Nat} (hi : i < l.length) :
    rowV w ⟨g, o + i * 13, none⟩ 13 = some (.agg (infL l[i]).toArray) ∧ ∀ j, j < 13 → w.cell? ⟨g, o + i * 13 + j, none⟩ = (infL l[i])[j]? := by
  obtain ⟨g', o', e, h1, h2⟩ := h.infAt hr hi
  simp only [Option.some.injEq, Addr.mk.injEq, and_true] at e
  obtain ⟨rfl, rfl⟩ := e
  exact ⟨h1, h2⟩

section
variable {w0 w : World} {A : HP} {g o c : Nat} {l : List Inf} {S : SD}
section
attribute [local go_sem] F50.t3_eq F50.t4_eq F50.t6_eq
theorem find_any (hr : Ent A (Reads 13 (.slice (some ⟨g, o, none⟩) l.length c) l.length (l.flatMap infL))) (hl : l.length ≤ 1000000) {j p : Nat} (hj : j < l.length) (hp : l[j].path = p) (hb : ∀ k (hk : k < l.length), k < j → l[k].path ≠ p) (h : St w0 A w) :
    Calls Tryd.prog 50 #[.slice (some ⟨g, o, none⟩) l.length c, .int .u64 p] w fun e w' => St w0 A w' ∧ e = .returned (.int .i64 j) := by
  refine F50.calls (by simp) ?_
  unfold F50.code
  simp -dsimp -implicitDefEqProofs (disch := omega) only [go_sem, reqD_of, dec_t, dec_f, wrap_i64, wrap_u32, wrap_u64, wrap_u8]
  refine loop_intro (fun e w' => e.ds = [] ∧ e.ρ 0 = .slice (some ⟨g, o, none⟩) l.length c ∧ e.ρ 1 = .int .u64 p ∧ ∃ i : Nat, i ≤ j ∧ e.ρ 5 = .int .i64 i ∧ St w0 A w')
    (fun e _ => match e.ρ 5 with | .int _ k => (l.length - k).toNat | _ => 0) ?_ ?_
  · exact ⟨by simp -dsimp -implicitDefEqProofs only [go_sem], by simp -dsimp -implicitDefEqProofs only [go_sem], by simp -dsimp -implicitDefEqProofs only [go_sem], 0, by omega, by simp -dsimp -implicitDefEqProofs only [go_sem], h⟩
  clear h
  rintro e w ⟨hd, e0, e1, i, hi, e5, h⟩
  have hlt : (i : Int) < l.length := by omega
  have hil : i < l.length := by omega
  obtain ⟨_, hc⟩ := h.infG hr hil
  have p0 : w.cell? ⟨g, o + i * 13, none⟩ = some (.int .u64 l[i].path) := hc 0 (by decide)
  by_cases hij : i = j
  · subst hij
    rw [hp] at p0
    simp -dsimp -implicitDefEqProofs (disch := omega) only [go_sem, reqD_of, dec_t, dec_f, wrap_i64, wrap_u32, wrap_u64, wrap_u8, hd, e0, e1, e5, hlt, p0]
    exact h
  · have hne : ¬ ((l[i].path : Nat) : Int) = p := by have := hb i hil (by omega); omega
    simp -dsimp -implicitDefEqProofs (disch := omega) only [go_sem, reqD_of, dec_t, dec_f, wrap_i64, wrap_u32, wrap_u64, wrap_u8, hd, e0, e1, e5, hlt, p0, hne]
    exact ⟨⟨i + 1, by omega, by omega, h⟩, by omega⟩

abbrev KidR (v : Value) (l : List Int) : HP := RowO 3 1 v l.length (l.map fun z => .int .i64 z)
theorem rowTy_ints : rowTy Tryd.prog 62 = some (3, 1, 8, [.int .i64 0]) := by kernel_rfl
theorem tell_at (S : SD) {i : Nat} (hi : i < S.L.length) : (tellL S)[i]'(by rw [tell_len]; exact hi) = tellF S.L S.L[i] := by simp [tellL]

end
section
attribute [local go_sem] F27.t13_eq F27.t14_eq F27.t10_eq F27.t6_eq F27.t7_eq F27.t18_eq F27.t19_eq F27.t21_eq F27.t3_eq
theorem sound_t16 {e : FA} {K : Nat} (wS : Wf S) (hl : l = tellL S) (hr : Ent A (Reads 13 (.slice (some ⟨g, o, none⟩) l.length c) l.length (l.flatMap infL))) (hd : e.ds = []) (e0 : e.ρ 0 = .slice (some ⟨g, o, none⟩) l.length c) (e5 : e.ρ 5 = .slice (some ⟨K, 0, none⟩) l.length l.length)
    (h : St w0 (RowO 3 1 (.slice (some ⟨K, 0, none⟩) l.length l.length) l.length ((kidsUp S S.L.length).map fun z => .int .i64 z) * A) w) :
    cwE Tryd.prog F27.t16 (fnP Tryd.prog #[.tmp 4] fun e w' => St w0 A w' ∧ e = .returned (.bool true)) e w := by
  rw [F27.t16_eq]
  have hlen : l.length = S.L.length := by rw [hl, tell_len]
  have hf := wS.few
  have hm := wS.most
  simp -dsimp -implicitDefEqProofs (disch := omega) only [go_sem, reqD_of, dec_t, dec_f, wrap_i64, wrap_u32, wrap_u64, wrap_u8, hd, e0, e5]
  refine loop_intro (fun e w' => e.ds = [] ∧ e.ρ 0 = .slice (some ⟨g, o, none⟩) l.length c ∧ e.ρ 5 = .slice (some ⟨K, 0, none⟩) l.length l.length ∧ ∃ i : Nat, i ≤ l.length ∧ e.ρ 9 = .int .i64 i ∧ St w0 (RowO 3 1 (.slice (some ⟨K, 0, none⟩) l.length l.length) l.length ((kidsUp S S.L.length).map fun z => .int .i64 z) * A) w')
    (fun e _ => match e.ρ 9 with | .int _ k => (l.length - k).toNat | _ => 0) ?_ ?_
  · exact ⟨by simp -dsimp -implicitDefEqProofs only [go_sem, hd], by simp -dsimp -implicitDefEqProofs only [go_sem, e0], by simp -dsimp -implicitDefEqProofs only [go_sem, e5], 0, by omega, by simp -dsimp -implicitDefEqProofs only [go_sem], h⟩
  clear h hd e0 e5
  rintro e w ⟨hd, e0, e5, i, hi, e9, h⟩
  by_cases hlt : (i : Int) < l.length
  case neg =>
    simp -dsimp -implicitDefEqProofs (disch := omega) only [go_sem, reqD_of, dec_t, dec_f, wrap_i64, wrap_u32, wrap_u64, wrap_u8, hd, e0, e5, e9, hlt]
    exact h.right
  have hil : i < l.length := by omega
  have hiS : i < S.L.length := by omega
  have ti : l[i] = tellF S.L S.L[i] := by subst hl; exact tell_at S hiS
  have hD := h.drew
  obtain ⟨_, di⟩ := hD.right.infG hr hil
  have oki := wS.ok _ (List.getElem_mem hiS)
  have f1 : w.drew.cell? ⟨g, o + i * 13 + 12, none⟩ = some (.int .i64 ((kidsF S.L S.L[i].i.path).length : Nat)) := by have := di 12 (by decide); rw [ti] at this; exact this
  have f2 : w.drew.cell? ⟨g, o + i * 13 + 11, none⟩ = some (.int .i64 S.L[i].i.opens) := by have := di 11 (by decide); rw [ti] at this; exact this
  have f3 : w.drew.cell? ⟨g, o + i * 13 + 3, none⟩ = some (.int .u32 S.L[i].i.mode) := by have := di 3 (by decide); rw [ti] at this; exact this
  have f4 : w.drew.cell? ⟨g, o + i * 13 + 10, none⟩ = some (.int .u64 S.L[i].i.length) := by have := di 10 (by decide); rw [ti] at this; exact this
  have f5 : w.drew.cell? ⟨K, i, none⟩ = some (.int .i64 ((kidsF S.L S.L[i].i.path).length : Nat)) := by
    obtain ⟨b', o', e1, e2⟩ := (hD.left.ent (RowO.reads _ _ _ _ _)).atS (a := some ⟨K, 0, none⟩) (n := l.length) (c := l.length) (xs := (kidsUp S S.L.length).map fun z => .int .i64 z) (k := i) (by rw [List.length_map, up_len]; exact hiS)
    simp only [Option.some.injEq, Addr.mk.injEq, and_true] at e1
    obtain ⟨rfl, rfl⟩ := e1
    rw [Nat.zero_add, List.getElem_map, up_all hiS] at e2
    exact e2
  have n1 : ¬ S.L[i].i.opens < 0 := by have := oki.op0; omega
  by_cases hdir : (2147483648 : Int) ≤ (S.L[i].i.mode : Nat)
  · have n2 : ((S.L[i].i.length : Nat) : Int) = 0 := by
      have h1 := oki.dir (by unfold dirF; exact decide_eq_true (by omega))
      have h2 := oki.len
      rw [h1] at h2
      simp at h2
      omega
    simp -dsimp -implicitDefEqProofs (disch := omega) only [go_sem, reqD_of, dec_t, dec_f, wrap_i64, wrap_u32, wrap_u64, wrap_u8, hd, e0, e5, e9, hlt, f1, f2, f3, f4, f5, n1, hdir, n2]
    exact ⟨⟨i + 1, by omega, by omega, hD⟩, by omega⟩
  · simp -dsimp -implicitDefEqProofs (disch := omega) only [go_sem, reqD_of, dec_t, dec_f, wrap_i64, wrap_u32, wrap_u64, wrap_u8, hd, e0, e5, e9, hlt, f1, f2, f3, f4, f5, n1, hdir]
    exact ⟨⟨i + 1, by omega, by omega, hD⟩, by omega⟩

theorem sound_any (wS : Wf S) (hrn : RN S) (hl : l = tellL S) {most : Nat} (hm : S.L.length ≤ most ∧ most ≤ 1000000) (hr : Ent A (Reads 13 (.slice (some ⟨g, o, none⟩) l.length c) l.length (l.flatMap infL))) (h : St w0 A w) :
    Calls Tryd.prog 27 #[.slice (some ⟨g, o, none⟩) l.length c, .int .i64 most] w fun e w' => St w0 A w' ∧ e = .returned (.bool true) := by
  have hlen : l.length = S.L.length := by rw [hl, tell_len]
  obtain ⟨h0, hp0, hpar0⟩ := head_law wS
  refine F27.calls (by simp) ?_
  unfold F27.code
  have hl0 : 0 < l.length := by omega
  have t0 : l[0] = tellF S.L S.L[0] := by subst hl; exact tell_at S h0
  obtain ⟨_, hc⟩ := h.infG hr hl0
  have c0 : w.cell? ⟨g, o, none⟩ = some (.int .u64 1) := by have := hc 0 (by decide); rw [t0] at this; simpa [tellF, hp0] using this
  have c1 : w.cell? ⟨g, o + 1, none⟩ = some (.int .u64 1) := by have := hc 1 (by decide); rw [t0] at this; simpa [tellF, hpar0] using this
  have c2 : w.cell? ⟨g, o + 2, none⟩ = some (.string (strOf [47])) := by have := hc 2 (by decide); rw [t0] at this; simpa [tellF, hrn _ (List.getElem_mem h0) hp0] using this
  have b1 : ¬ (l.length : Int) = 0 := by omega
  have b2 : ¬ (most : Int) < l.length := by omega
  have b3 : (0 : Int) < l.length := by omega
  simp -dsimp -implicitDefEqProofs (disch := omega) only [go_sem, reqD_of, dec_t, dec_f, wrap_i64, wrap_u32, wrap_u64, wrap_u8, b1, b2, b3, c0, c1, c2]
  refine St.make1 h (n := l.length) (c := l.length) rowTy_ints (Nat.le_refl _) (by omega) (by omega) fun K w1 h1 => ?_
  simp -dsimp -implicitDefEqProofs (disch := omega) only [go_sem, reqD_of, dec_t, dec_f, wrap_i64, wrap_u32, wrap_u64, wrap_u8]
  have h1 : St w0 (RowO 3 1 (.slice (some ⟨K, 0, none⟩) l.length l.length) l.length ((kidsUp S 1).map fun z => .int .i64 z) * A) w1 := by
    rw [up_1 wS, List.map_replicate, ← hlen]; exact h1
  refine loop_intro (fun e w' => e.ds = [] ∧ e.ρ 0 = .slice (some ⟨g, o, none⟩) l.length c ∧ e.ρ 5 = .slice (some ⟨K, 0, none⟩) l.length l.length ∧ ∃ i : Nat, 1 ≤ i ∧ i ≤ l.length ∧ e.ρ 6 = .int .i64 i ∧ St w0 (RowO 3 1 (.slice (some ⟨K, 0, none⟩) l.length l.length) l.length ((kidsUp S i).map fun z => .int .i64 z) * A) w')
    (fun e _ => match e.ρ 6 with | .int _ k => (l.length - k).toNat | _ => 0) ?_ ?_
  · exact ⟨by simp -dsimp -implicitDefEqProofs only [go_sem], by simp -dsimp -implicitDefEqProofs only [go_sem], by simp -dsimp -implicitDefEqProofs only [go_sem], 1, by omega, by omega, by simp -dsimp -implicitDefEqProofs only [go_sem], h1⟩
  clear h h1 c0 c1 c2 hc
  rintro e w ⟨hd, e0, e5, i, hi1, hi, e6, h⟩
  by_cases hlt : (i : Int) < l.length
  case neg =>
    have : i = S.L.length := by omega
    rw [this] at h
    simp -dsimp -implicitDefEqProofs (disch := omega) only [go_sem, reqD_of, dec_t, dec_f, wrap_i64, wrap_u32, wrap_u64, wrap_u8, hd, e0, e5, e6, hlt]
    exact sound_t16 wS hl hr (by simp -dsimp -implicitDefEqProofs only [go_sem, hd]) (by simp -dsimp -implicitDefEqProofs only [go_sem, e0]) (by simp -dsimp -implicitDefEqProofs only [go_sem, e5]) h
  have hil : i < l.length := by omega
  have hiS : i < S.L.length := by omega
  obtain ⟨j, hjS, hji, hjp, hjd⟩ := parent_law wS hiS (by omega)
  have hjl : j < l.length := by omega
  have ti : l[i] = tellF S.L S.L[i] := by subst hl; exact tell_at S hiS
  have tj : l[j] = tellF S.L S.L[j] := by subst hl; exact tell_at S hjS
  have hprev : i - 1 < l.length := by omega
  have tp : l[i - 1] = tellF S.L (S.L[i - 1]'(by omega)) := by subst hl; exact tell_at S (by omega)
  have oki := wS.ok _ (List.getElem_mem hiS)
  obtain ⟨_, hci⟩ := h.right.infG hr hil
  have ci1 : w.cell? ⟨g, o + i * 13 + 1, none⟩ = some (.int .u64 S.L[i].i.parent) := by have := hci 1 (by decide); rw [ti] at this; exact this
  simp -dsimp -implicitDefEqProofs (disch := omega) only [go_sem, reqD_of, dec_t, dec_f, wrap_i64, wrap_u32, wrap_u64, wrap_u8, hd, e0, e5, e6, hlt, ci1]
  refine (find_any (l := l) (j := j) (p := S.L[i].i.parent) ((Ent.right _ _).trans hr) (by omega) hjl (by rw [tj]; exact hjp) (fun k hk hkj => ?_) h).mono ?_
  · have tk : l[k] = tellF S.L (S.L[k]'(by omega)) := by subst hl; exact tell_at S (by omega)
    rw [tk]
    have := List.pairwise_iff_getElem.1 wS.rise k j (by omega) hjS hkj
    show (S.L[k]'(by omega)).i.path ≠ _
    omega
  rintro e' w1 ⟨h1, rfl⟩
  have hD := h1.drew
  obtain ⟨_, di⟩ := hD.right.infG hr hil
  obtain ⟨_, dj⟩ := hD.right.infG hr hjl
  obtain ⟨_, dp⟩ := hD.right.infG hr hprev
  have f1 : w1.drew.cell? ⟨g, o + i * 13, none⟩ = some (.int .u64 S.L[i].i.path) := by have := di 0 (by decide); rw [ti] at this; exact this
  have f2 : w1.drew.cell? ⟨g, o + (i - 1) * 13, none⟩ = some (.int .u64 (S.L[i - 1]'(by omega)).i.path) := by have := dp 0 (by decide); rw [tp] at this; exact this
  have f3 : w1.drew.cell? ⟨g, o + j * 13 + 3, none⟩ = some (.int .u32 S.L[j].i.mode) := by have := dj 3 (by decide); rw [tj] at this; exact this
  have f4 : w1.drew.cell? ⟨g, o + i * 13 + 10, none⟩ = some (.int .u64 S.L[i].i.length) := by have := di 10 (by decide); rw [ti] at this; exact this
  have n1 : ¬ (j : Int) < 0 := by omega
  have n2 : ¬ (i : Int) ≤ j := by omega
  have n3 : ¬ ((S.L[i].i.path : Nat) : Int) ≤ ((S.L[i - 1]'(by omega)).i.path : Nat) := by have := List.pairwise_iff_getElem.1 wS.rise (i - 1) i (by omega) hiS (by omega); omega
  have n4 : ¬ ((S.L[j].i.mode : Nat) : Int) < 2147483648 := by unfold dirF at hjd; have := of_decide_eq_true hjd; omega
  have n5 : ¬ (65536 : Int) < (S.L[i].i.length : Nat) := by have := oki.len; have := oki.few; omega
  have it : ((i : Int) - 1).toNat = i - 1 := by omega
  simp -dsimp -implicitDefEqProofs (disch := omega) only [go_sem, reqD_of, dec_t, dec_f, wrap_i64, wrap_u32, wrap_u64, wrap_u8, hd, e0, e5, e6, f1, f2, f3, f4, n1, n2, n3, n4, n5, it]
  obtain ⟨kj, hkj⟩ : ∃ kj, kj = (kidsUp S i)[j]'(by rw [up_len]; exact hjS) := ⟨_, rfl⟩
  have hkb : 0 ≤ kj ∧ kj ≤ 1000000 := by
    rw [hkj]
    simp only [kidsUp, List.getElem_map]
    have h1 := List.length_filter_le (isKid S.L[j].i.path) (S.L.take i)
    have h2 : (S.L.take i).length ≤ S.L.length := by simp; omega
    omega
  have kcell : ∀ {w : World} {F : HP}, St w0 (RowO 3 1 (.slice (some ⟨K, 0, none⟩) l.length l.length) l.length ((kidsUp S i).map fun z => .int .i64 z) * F) w → w.cell? ⟨K, j, none⟩ = some (.int .i64 kj) := fun h => by
    obtain ⟨b', o', e1, e2⟩ := (h.left.ent (RowO.reads _ _ _ _ _)).atS (a := some ⟨K, 0, none⟩) (n := l.length) (c := l.length) (xs := (kidsUp S i).map fun z => .int .i64 z) (k := j) (by rw [List.length_map, up_len]; exact hjS)
    simp only [Option.some.injEq, Addr.mk.injEq, and_true] at e1
    obtain ⟨rfl, rfl⟩ := e1
    rw [Nat.zero_add, List.getElem_map, ← hkj] at e2
    exact e2
  simp -dsimp -implicitDefEqProofs (disch := omega) only [go_sem, reqD_of, dec_t, dec_f, wrap_i64, wrap_u32, wrap_u64, wrap_u8, hd, e0, e5, e6, kcell hD]
  rw [show (⟨K, j, none⟩ : Addr) = ⟨K, 0 + j, none⟩ by rw [Nat.zero_add]]
  refine hD.rowSet1 (g := K) (o := 0) (n := l.length) (c := l.length) (k := j) (v := .int .i64 (kj + 1)) (by rw [List.length_map, up_len]; exact hjS) rfl fun w2 h2 => ?_
  have h2 : St w0 (RowO 3 1 (.slice (some ⟨K, 0, none⟩) l.length l.length) l.length ((kidsUp S (i + 1)).map fun z => .int .i64 z) * A) w2 := by
    rw [up_succ wS hiS (by omega) hjS hjp, ← hkj, List.map_set]
    exact h2
  simp -dsimp -implicitDefEqProofs (disch := omega) only [go_sem, reqD_of, dec_t, dec_f, wrap_i64, wrap_u32, wrap_u64, wrap_u8, hd, e0, e5, e6]
  refine loop_intro (fun e w' => e.ds = [] ∧ e.ρ 0 = .slice (some ⟨g, o, none⟩) l.length c ∧ e.ρ 5 = .slice (some ⟨K, 0, none⟩) l.length l.length ∧ e.ρ 6 = .int .i64 i ∧ ∃ k : Nat, 1 ≤ k ∧ k ≤ i ∧ e.ρ 8 = .int .i64 k ∧ St w0 (RowO 3 1 (.slice (some ⟨K, 0, none⟩) l.length l.length) l.length ((kidsUp S (i + 1)).map fun z => .int .i64 z) * A) w')
    (fun e _ => match e.ρ 8 with | .int _ k => (l.length - k).toNat | _ => 0) ?_ ?_
  · exact ⟨by simp -dsimp -implicitDefEqProofs only [go_sem, hd], by simp -dsimp -implicitDefEqProofs only [go_sem, e0], by simp -dsimp -implicitDefEqProofs only [go_sem, e5], by simp -dsimp -implicitDefEqProofs only [go_sem, e6], 1, by omega, by omega, by simp -dsimp -implicitDefEqProofs only [go_sem], h2⟩
  clear h1 hD f1 f2 f3 f4 di dj dp h2 hci ci1
  rintro e1 w2 ⟨gd, g0, g5, g6, k, hk1, hk, g8, h2⟩
  by_cases hki : (k : Int) < i
  case neg =>
    simp -dsimp -implicitDefEqProofs (disch := omega) only [go_sem, reqD_of, dec_t, dec_f, wrap_i64, wrap_u32, wrap_u64, wrap_u8, gd, g0, g5, g6, g8, hki, e6]
    exact ⟨⟨i + 1, by omega, by omega, by omega, h2⟩, by omega⟩
  have hkl : k < l.length := by omega
  have hkS : k < S.L.length := by omega
  have tk : l[k] = tellF S.L S.L[k] := by subst hl; exact tell_at S hkS
  have hD2 := h2.drew
  obtain ⟨_, dk⟩ := hD2.right.infG hr hkl
  obtain ⟨_, di⟩ := hD2.right.infG hr hil
  have f1 : w2.drew.cell? ⟨g, o + k * 13 + 1, none⟩ = some (.int .u64 S.L[k].i.parent) := by have := dk 1 (by decide); rw [tk] at this; exact this
  have f2 : w2.drew.cell? ⟨g, o + i * 13 + 1, none⟩ = some (.int .u64 S.L[i].i.parent) := by have := di 1 (by decide); rw [ti] at this; exact this
  have f3 : w2.drew.cell? ⟨g, o + k * 13 + 2, none⟩ = some (.string (strOf S.L[k].i.name)) := by have := dk 2 (by decide); rw [tk] at this; exact this
  have f4 : w2.drew.cell? ⟨g, o + i * 13 + 2, none⟩ = some (.string (strOf S.L[i].i.name)) := by have := di 2 (by decide); rw [ti] at this; exact this
  by_cases hpp : ((S.L[k].i.parent : Nat) : Int) = (S.L[i].i.parent : Nat)
  · have hnm : ¬ S.L[k].i.name = S.L[i].i.name := fun hh => by
      have := wS.one _ (List.getElem_mem hkS) _ (List.getElem_mem hiS) (not_root wS hkS (by omega)) (not_root wS hiS (by omega)) (by omega) hh
      have := List.pairwise_iff_getElem.1 wS.rise k i hkS hiS (by omega)
      omega
    simp -dsimp -implicitDefEqProofs (disch := omega) only [go_sem, reqD_of, dec_t, dec_f, wrap_i64, wrap_u32, wrap_u64, wrap_u8, gd, g0, g5, g6, g8, hki, f1, f2, f3, f4, hpp, hnm]
    exact ⟨⟨k + 1, by omega, by omega, by omega, hD2⟩, by omega⟩
  · simp -dsimp -implicitDefEqProofs (disch := omega) only [go_sem, reqD_of, dec_t, dec_f, wrap_i64, wrap_u32, wrap_u64, wrap_u8, gd, g0, g5, g6, g8, hki, f1, f2, f3, f4, hpp]
    exact ⟨⟨k + 1, by omega, by omega, by omega, hD2⟩, by omega⟩
end
end
end Go.Proofs.YtijnmokpihhhcaaDoor

namespace Go.Proofs.YtijnmokpihhhcaaDoor
open Go
set_option linter.unusedVariables false
set_option linter.unusedSimpArgs false
set_option maxRecDepth 100000

section
variable {w0 w : World} {A : HP} {g o c b : Nat} {l : List Inf} {S : SD}
section
attribute [local go_sem] F28.t12_eq F28.t13_eq F28.t15_eq F28.t8_eq F28.t7_eq F28.t3_eq F28.t4_eq F28.t18_eq
theorem found_any (wS : Wf S) (hl : l = tellL S) (hr : Ent A (Reads 13 (.slice (some ⟨g, o, none⟩) l.length c) l.length (l.flatMap infL))) (h : St w0 (StoreP b 0 0 S * A) w) :
    Calls Tryd.prog 28 #[.pointer (some ⟨b, 0, none⟩), .slice (some ⟨g, o, none⟩) l.length c] w fun e w' => St w0 (StoreP b 0 0 S * A) w' ∧ e = .returned (.bool true) := by
  have hlen : l.length = S.L.length := by rw [hl, tell_len]
  have hf := wS.few
  have hm := wS.most
  refine F28.calls (by simp) ?_
  unfold F28.code
  simp -dsimp -implicitDefEqProofs (disch := omega) only [go_sem, reqD_of, dec_t, dec_f, wrap_i64, wrap_u32, wrap_u64, wrap_u8]
  refine loop_intro (fun e w' => e.ds = [] ∧ e.ρ 0 = .pointer (some ⟨b, 0, none⟩) ∧ e.ρ 1 = .slice (some ⟨g, o, none⟩) l.length c ∧ ∃ i : Nat, i ≤ l.length ∧ e.ρ 5 = .int .i64 i ∧ St w0 (StoreP b 0 0 S * A) w')
    (fun e _ => match e.ρ 5 with | .int _ k => (l.length - k).toNat | _ => 0) ?_ ?_
  · exact ⟨by simp -dsimp -implicitDefEqProofs only [go_sem], by simp -dsimp -implicitDefEqProofs only [go_sem], by simp -dsimp -implicitDefEqProofs only [go_sem], 0, by omega, by simp -dsimp -implicitDefEqProofs only [go_sem], h⟩
  clear h
  rintro e w ⟨hd, e0, e1, i, hi, e5, h⟩
  by_cases hlt : (i : Int) < l.length
  case neg =>
    simp -dsimp -implicitDefEqProofs (disch := omega) only [go_sem, reqD_of, dec_t, dec_f, wrap_i64, wrap_u32, wrap_u64, wrap_u8, hd, e0, e1, e5, hlt]
    exact h
  have hil : i < l.length := by omega
  have hiS : i < S.L.length := by omega
  have ti : l[i] = tellF S.L S.L[i] := by subst hl; exact tell_at S hiS
  have hfi := find_of wS.rise (List.getElem_mem hiS)
  have hti : toldI S S.L[i].i.path = l[i] := by rw [toldI_some hfi, ti]
  have hsi : (findN S.L S.L[i].i.path).isSome = true := by rw [hfi]; rfl
  obtain ⟨_, ci⟩ := h.right.infG hr hil
  have c0 : w.cell? ⟨g, o + i * 13, none⟩ = some (.int .u64 S.L[i].i.path) := by have := ci 0 (by decide); rw [ti] at this; exact this
  simp -dsimp -implicitDefEqProofs (disch := omega) only [go_sem, reqD_of, dec_t, dec_f, wrap_i64, wrap_u32, wrap_u64, wrap_u8, hd, e0, e1, e5, hlt, c0]
  refine (node_any (p := S.L[i].i.path) h).mono ?_
  rintro e' w1 ⟨h1, rfl⟩
  rw [toldV, hti, hsi]
  simp -dsimp -implicitDefEqProofs (disch := omega) only [go_sem, reqD_of, dec_t, dec_f, wrap_i64, wrap_u32, wrap_u64, wrap_u8, hd, e0, e1, e5]
  refine h1.new fun X w2 h2 => ?_
  simp -dsimp -implicitDefEqProofs (disch := omega) only [go_sem, reqD_of, dec_t, dec_f, wrap_i64, wrap_u32, wrap_u64, wrap_u8, hd, e0, e1, e5]
  refine h2.stoAll (b := X) (cs := infL l[i]) rfl rfl (infL_cells _) fun w3 h3 => ?_
  have hD := h3.drew
  obtain ⟨pi, di⟩ := hD.right.right.infG hr hil
  have rX : rowV w3.drew ⟨X, 0, none⟩ 13 = some (.agg (infL l[i]).toArray) := hD.rowH X 13 rfl
  simp -dsimp -implicitDefEqProofs (disch := omega) only [go_sem, reqD_of, dec_t, dec_f, wrap_i64, wrap_u32, wrap_u64, wrap_u8, hd, e0, e1, e5, rX, pi]
  by_cases hz : (i : Int) = 0
  · simp -dsimp -implicitDefEqProofs (disch := omega) only [go_sem, reqD_of, dec_t, dec_f, wrap_i64, wrap_u32, wrap_u64, wrap_u8, hd, e0, e1, e5, hz]
    exact ⟨⟨1, by omega, by omega, hD.right⟩, by omega⟩
  have hi0 : 0 < i := by omega
  have hnr := not_root wS hiS hi0
  obtain ⟨q, hq⟩ : ∃ q, q = S.L[i].i.parent := ⟨_, rfl⟩
  have hch := child_of wS (List.getElem_mem hiS) hnr
  have haf := last_after wS hiS hi0
  rw [← hq] at hch haf
  obtain ⟨_, di2⟩ := hD.drew.right.right.infG hr hil
  have f1 : w3.drew.drew.cell? ⟨g, o + i * 13 + 1, none⟩ = some (.int .u64 q) := by have := di2 1 (by decide); rw [ti, tellF] at this; rw [hq]; exact this
  have f2 : w3.drew.drew.cell? ⟨g, o + i * 13 + 2, none⟩ = some (.string (strOf S.L[i].i.name)) := by have := di2 2 (by decide); rw [ti] at this; exact this
  simp -dsimp -implicitDefEqProofs (disch := omega) only [go_sem, reqD_of, dec_t, dec_f, wrap_i64, wrap_u32, wrap_u64, wrap_u8, hd, e0, e1, e5, hz, f1, f2]
  refine (child_any (p := q) (nm := S.L[i].i.name) hD.right.drew).mono ?_
  rintro e' w4 ⟨h4, rfl⟩
  rw [hch]
  obtain ⟨_, di4⟩ := h4.right.infG hr hil
  have f1 : w4.cell? ⟨g, o + i * 13 + 1, none⟩ = some (.int .u64 q) := by have := di4 1 (by decide); rw [ti, tellF] at this; rw [hq]; exact this
  have f2 : w4.cell? ⟨g, o + i * 13 + 2, none⟩ = some (.string (strOf S.L[i].i.name)) := by have := di4 2 (by decide); rw [ti] at this; exact this
  simp -dsimp -implicitDefEqProofs (disch := omega) only [go_sem, reqD_of, dec_t, dec_f, wrap_i64, wrap_u32, wrap_u64, wrap_u8, hd, e0, e1, e5, f1, f2]
  refine loop_intro (fun e w' => e.ds = [] ∧ e.ρ 0 = .pointer (some ⟨b, 0, none⟩) ∧ e.ρ 1 = .slice (some ⟨g, o, none⟩) l.length c ∧ e.ρ 5 = .int .i64 i ∧ e.ρ 8 = .int .u64 S.L[i].i.path ∧ e.ρ 9 = .bool true ∧ ∃ k : Nat, 1 ≤ k ∧ k ≤ i ∧ e.ρ 11 = .int .i64 k ∧ e.ρ 10 = .int .u64 (lastUp S q k) ∧ St w0 (StoreP b 0 0 S * A) w')
    (fun e _ => match e.ρ 11 with | .int _ k => (l.length - k).toNat | _ => 0) ?_ ?_
  · exact ⟨by simp -dsimp -implicitDefEqProofs only [go_sem, hd], by simp -dsimp -implicitDefEqProofs only [go_sem, e0], by simp -dsimp -implicitDefEqProofs only [go_sem, e1], by simp -dsimp -implicitDefEqProofs only [go_sem, e5], by simp -dsimp -implicitDefEqProofs only [go_sem], by simp -dsimp -implicitDefEqProofs only [go_sem], 1, by omega, by omega, by simp -dsimp -implicitDefEqProofs only [go_sem], by simp -dsimp -implicitDefEqProofs only [go_sem]; rw [last_1 wS]; rfl, h4⟩
  clear h1 h2 h3 hD h4 f1 f2 di di2 di4 pi rX
  rintro e1' w4 ⟨gd, g0, g1, g5, g8, g9, k, hk1, hk, g11, g10, h4⟩
  by_cases hki : (k : Int) < i
  · have hkl : k < l.length := by omega
    have hkS : k < S.L.length := by omega
    have tk : l[k] = tellF S.L S.L[k] := by subst hl; exact tell_at S hkS
    have hD := h4.drew
    obtain ⟨_, dk⟩ := hD.right.infG hr hkl
    obtain ⟨_, di⟩ := hD.right.infG hr hil
    have f0 : w4.drew.cell? ⟨g, o + k * 13, none⟩ = some (.int .u64 S.L[k].i.path) := by have := dk 0 (by decide); rw [tk] at this; exact this
    have f1 : w4.drew.cell? ⟨g, o + k * 13 + 1, none⟩ = some (.int .u64 S.L[k].i.parent) := by have := dk 1 (by decide); rw [tk] at this; exact this
    have f2 : w4.drew.cell? ⟨g, o + i * 13 + 1, none⟩ = some (.int .u64 q) := by have := di 1 (by decide); rw [ti, tellF] at this; rw [hq]; exact this
    have hls := last_succ wS (q := q) hkS (by omega)
    by_cases hpp : ((S.L[k].i.parent : Nat) : Int) = q
    · rw [if_pos (by omega)] at hls
      simp -dsimp -implicitDefEqProofs (disch := omega) only [go_sem, reqD_of, dec_t, dec_f, wrap_i64, wrap_u32, wrap_u64, wrap_u8, gd, g0, g1, g5, g8, g9, g11, g10, hki, f0, f1, f2, hpp]
      exact ⟨⟨k + 1, by omega, by omega, by omega, by rw [hls], hD⟩, by omega⟩
    · rw [if_neg (by omega)] at hls
      simp -dsimp -implicitDefEqProofs (disch := omega) only [go_sem, reqD_of, dec_t, dec_f, wrap_i64, wrap_u32, wrap_u64, wrap_u8, gd, g0, g1, g5, g8, g9, g11, g10, hki, f0, f1, f2, hpp]
      exact ⟨⟨k + 1, by omega, by omega, by omega, by rw [hls], hD⟩, by omega⟩
  · have hke : k = i := by omega
    subst hke
    obtain ⟨_, di⟩ := h4.right.infG hr hil
    have f2 : w4.cell? ⟨g, o + k * 13 + 1, none⟩ = some (.int .u64 q) := by have := di 1 (by decide); rw [ti, tellF] at this; rw [hq]; exact this
    simp -dsimp -implicitDefEqProofs (disch := omega) only [go_sem, reqD_of, dec_t, dec_f, wrap_i64, wrap_u32, wrap_u64, wrap_u8, gd, g0, g1, g5, g8, g9, g11, g10, hki, f2]
    refine (after_any (p := q) (last := lastUp S q k) h4).mono ?_
    rintro e' w5 ⟨h5, rfl⟩
    rw [haf, aftV]
    obtain ⟨_, di5⟩ := h5.right.infG hr hil
    have f0 : w5.cell? ⟨g, o + k * 13, none⟩ = some (.int .u64 S.L[k].i.path) := by have := di5 0 (by decide); rw [ti] at this; exact this
    simp -dsimp -implicitDefEqProofs (disch := omega) only [go_sem, reqD_of, dec_t, dec_f, wrap_i64, wrap_u32, wrap_u64, wrap_u8, gd, g0, g1, g5, g8, g9, g11, g10, f0, e5]
    exact ⟨⟨k + 1, by omega, by omega, h5⟩, by omega⟩
end
end
end Go.Proofs.YtijnmokpihhhcaaDoor

namespace Go.Proofs.YtijnmokpihhhcaaDoor
open Go
set_option linter.unusedVariables false
set_option linter.unusedSimpArgs false
set_option maxRecDepth 100000

section
variable {w0 w : World} {A : HP}
section
attribute [local go_sem] F22.t3_eq
theorem pick_any (h : St w0 A w) {c : Int} {n : Nat} (hc : -9223372036854775808 ≤ c ∧ c ≤ 9223372036854775807) (hn : 0 < n ∧ n ≤ 1000000) :
    Calls Tryd.prog 22 #[.int .i64 c, .int .i64 n] w fun e w' => St w0 A w' ∧ e = .returned (.int .i64 (pickF c n)) := by
  refine F22.calls (by simp) ?_
  unfold F22.code
  by_cases h0 : c < 0
  · have hp : ((pickF c n : Nat) : Int) = -(c + 1) % n := by
      have := Int.emod_nonneg (-(c + 1)) (b := (n : Int)) (by omega)
      unfold pickF; rw [if_pos h0]; omega
    simp -dsimp -implicitDefEqProofs (disch := omega) only [go_sem, reqD_of, dec_t, dec_f, wrap_i64, wrap_u32, wrap_u64, wrap_u8, h0, hp]
    exact ⟨h, by rw [Int.tmod_eq_emod_of_nonneg (by omega), Int.zero_sub]⟩
  · have hp : ((pickF c n : Nat) : Int) = c % n := by
      have := Int.emod_nonneg c (b := (n : Int)) (by omega)
      unfold pickF; rw [if_neg h0]; omega
    simp -dsimp -implicitDefEqProofs (disch := omega) only [go_sem, reqD_of, dec_t, dec_f, wrap_i64, wrap_u32, wrap_u64, wrap_u8, h0, hp]
    exact ⟨h, by rw [Int.tmod_eq_emod_of_nonneg (by omega)]⟩

abbrev i64V : Int → Value := fun z => .int .i64 z
abbrev rowTy_by : rowTy Tryd.prog 51 = some (5, 1, 1, [.int .u8 0]) := by kernel_rfl
/-- What NodesPaths owns on the way. -/
abbrev PathsW (b : Nat) (vl : Value) (l : List Nat) (nx : Nat) (P : List (Nat × Nat)) (A : HP) : HP := StoreP b 0 0 (pathS nx P) * (RowU vl l * A)
abbrev NilB (A : HP) : HP := RowO 5 1 (.slice none 0 0) 0 [] * A
theorem NilB.gives (A : HP) {bs : List UInt8} (h : bs = []) : Gives (NilB A) (RdB (.slice none 0 0) bs) := by subst h; exact ⟨(Ent.left _ _).trans (RowO.reads _ _ _ _ _)⟩

/-- The first part of the list that lives, in a list of its own. -/
theorem drop_head {b gl ol cl nx k : Nat} {l : List Nat} {P : List (Nat × Nat)} (hk : k < l.length) (hc : l.length ≤ cl ∧ cl ≤ maxLen) (hl : l.length ≤ 1000000) (h : St w0 (PathsW b (.slice (some ⟨gl, ol, none⟩) l.length cl) l nx P (NilB A)) w) {K : Value → World → Prop} {θ : Tag K}
    (hK : ∀ v w', St w0 (RowO 30 1 v k ((l.take k).map u64V) * PathsW b (.slice (some ⟨gl, ol, none⟩) l.length cl) l nx P (NilB A)) w' → K v w') :
    semD Tryd.prog (kAppend #[63, 63] 63 #[.slice none 0 0, .slice (if cl = 0 then some ⟨gl, ol, none⟩ else some ⟨gl, ol, none⟩) k cl]) w K θ := by
  have r1 := ((h.right.left.ent (RowO.reads _ _ _ _ _)).ent (Reads.sub (lo := 0) (k := k) (by omega)))
  simp only [Nat.mul_one, Nat.zero_mul, Option.map_some, add_lit, Nat.add_zero, Nat.sub_zero, List.drop_zero, ← List.map_take] at r1
  refine (h.nilR 30 1).appendO rowTy_u64 (r1.rd.src Tryd.underlying63 (u64_cells _) (fun hh => ?_)) (by simp [maxLen]; omega) (by omega) fun v3 w3 h3 => ?_
  · have := congrArg List.length hh
    simp only [List.length_map, List.length_take, List.length_nil] at this
    omega
  rw [Nat.zero_add, List.nil_append] at h3
  exact hK _ _ h3
/-- And the rest behind it. -/
theorem drop_rest {b gl ol cl nx k : Nat} {v : Value} {l : List Nat} {P : List (Nat × Nat)} (hk : k < l.length) (hc : l.length ≤ cl ∧ cl ≤ maxLen) (hl : l.length ≤ 1000000) (h : St w0 (RowO 30 1 v k ((l.take k).map u64V) * PathsW b (.slice (some ⟨gl, ol, none⟩) l.length cl) l nx P (NilB A)) w) {K : Value → World → Prop} {θ : Tag K}
    (hK : ∀ v w', St w0 (PathsW b v (l.eraseIdx k) nx P (NilB A)) w' → K v w') :
    semD Tryd.prog (kAppend #[63, 63] 63 #[v, .slice (if cl = ((k : Int) + 1).toNat then some ⟨gl, ol, none⟩ else some ⟨gl, ol + ((k : Int) + 1).toNat, none⟩) (l.length - ((k : Int) + 1).toNat) (cl - ((k : Int) + 1).toNat)]) w K θ := by
  have e1 : ((k : Int) + 1).toNat = k + 1 := by omega
  rw [e1]
  have r1 := ((h.right.right.left.ent (RowO.reads _ _ _ _ _)).ent (Reads.sub (lo := k + 1) (k := l.length - (k + 1)) (by omega)))
  rw [Nat.mul_one, Nat.mul_one, ← List.map_drop, ← List.map_take, List.take_of_length_le (by simp)] at r1
  simp only [Option.map_some, add_lit] at r1
  refine h.appendO rowTy_u64 (r1.rd.src Tryd.underlying63 (u64_cells _) (fun hh => ?_)) (by simp [maxLen]; omega) (by omega) fun v3 w3 h3 => ?_
  · have := congrArg List.length hh
    simp only [List.length_map, List.length_drop, List.length_nil] at this
    omega
  have hn : k + (l.length - (k + 1)) = (l.eraseIdx k).length := by rw [List.length_eraseIdx, if_pos hk]; omega
  rw [← List.map_append, ← List.eraseIdx_eq_take_drop_succ, hn] at h3
  exact hK _ _ (h3.sw2.ent (Ent.sep (Ent.rfl' _) (Ent.sep (Ent.rfl' _) (Ent.right _ _))))
theorem letter_w {k : Nat} (h : k < 26) : IntKind.u8.wrap (IntKind.i64.wrap (97 + (k : Int))) = (((UInt8.ofNat (97 + k)).toNat : Nat) : Int) := by
  rw [letter_nat h, wrap_i64 (by omega) (by omega), wrap_u8 (by omega) (by omega)]
  omega
theorem letter_0 (i : Nat) : IntKind.u8.wrap (IntKind.i64.wrap (97 + (i : Int).tmod 26)) = (((UInt8.ofNat (97 + i % 26)).toNat : Nat) : Int) := by
  rw [← letter_w (Nat.mod_lt _ (by decide)), show (i : Int).tmod 26 = ((i % 26 : Nat) : Int) from (Int.ofNat_tmod i 26).symm]
theorem letter_q {q : Nat} (hq : q < 9223372036854775808) : IntKind.u8.wrap (IntKind.i64.wrap (97 + (IntKind.i64.wrap (q : Int)).tmod 26)) = (((UInt8.ofNat (97 + q % 26)).toNat : Nat) : Int) := by
  have h1 : IntKind.i64.wrap (q : Int) = (q : Int) := wrap_i64 (by omega) (by omega)
  rw [← letter_w (Nat.mod_lt _ (by decide)), h1, show (q : Int).tmod 26 = ((q % 26 : Nat) : Int) from (Int.ofNat_tmod q 26).symm]
theorem letter_d {i d : Nat} (hi : i < 9223372036854775808) : IntKind.u8.wrap (IntKind.i64.wrap (97 + (IntKind.i64.wrap ((i : Int).tdiv d)).tmod 26)) = (((UInt8.ofNat (97 + i / d % 26)).toNat : Nat) : Int) := by
  have : i / d ≤ i := Nat.div_le_self _ _
  rw [show (i : Int).tdiv d = ((i / d : Nat) : Int) from (Int.ofNat_tdiv i d).symm]
  exact letter_q (Nat.lt_of_le_of_lt this hi)

def atF (l : List Nat) (j : Nat) : Nat := if j = 0 then 0 else l.getD (j - 1) 0
theorem at_after {i nx last : Nat} {P : List (Nat × Nat)} (h : PInv i nx last P) {l : List Nat} (hl : l = P.map (·.1)) {j : Nat} (hj : j ≤ l.length) : afterS (pathS nx P) 1 (atF l j) = l[j]? := by
  subst hl
  rw [List.length_map] at hj
  rw [← path_after h j hj]
  congr 1
  unfold atF
  by_cases h0 : 0 < j
  · rw [if_neg (by omega), dif_pos h0]
    have : j - 1 < P.length := by omega
    simp [List.getD_eq_getElem?_getD, this]
  · rw [if_pos (by omega), dif_neg h0]

end
section
attribute [local go_sem] F6.t17_eq F6.t26_eq F6.t21_eq F6.t11_eq F6.t12_eq F6.t35_eq F6.t31_eq F6.t32_eq F6.t36_eq F6.t28_eq F6.t7_eq F6.t4_eq
theorem paths_any [Gives A Tabs] {ds : List Int} {a : Option Addr} {c : Nat} [Gives A (Reads 1 (.slice a ds.length c) ds.length (ds.map i64V))] (hds : ∀ z ∈ ds, -9223372036854775808 ≤ z ∧ z ≤ 9223372036854775807) (hlen : ds.length ≤ 4611686018427387904) (h : St w0 A w) :
    Calls Tryd.prog 6 #[.slice a ds.length c] w fun e w' => St w0 A w' ∧ e = .returned (.bool true) := by
  refine F6.calls (by simp) ?_
  unfold F6.code
  simp -dsimp -implicitDefEqProofs (disch := omega) only [go_sem, reqD_of, dec_t, dec_f, wrap_i64, wrap_u32, wrap_u64, wrap_u8]
  refine (works_any h).mono ?_
  rintro e w1 ⟨h1, rfl⟩
  by_cases hbig : (8388608 : Int) < ds.length
  · simp -dsimp -implicitDefEqProofs (disch := omega) only [go_sem, reqD_of, dec_t, dec_f, wrap_i64, wrap_u32, wrap_u64, wrap_u8, hbig]
    exact h1
  simp -dsimp -implicitDefEqProofs (disch := omega) only [go_sem, reqD_of, dec_t, dec_f, wrap_i64, wrap_u32, wrap_u64, wrap_u8, hbig]
  have hN : St w0 (NilB A) w1 := h1.nilR 5 1
  refine (store_any (n := 40) (by decide) hN).mono ?_
  rintro e w2 ⟨b, h2, rfl⟩
  rw [pathS_nil] at h2
  have h2 : St w0 (StoreP b 0 0 (pathS 2 []) * (RowU (.slice none 0 0) [] * NilB A)) w2 := (h2.nilR 30 1).sw2
  simp -dsimp -implicitDefEqProofs (disch := omega) only [go_sem, reqD_of, dec_t, dec_f, wrap_i64, wrap_u32, wrap_u64, wrap_u8]
  refine loop_intro (fun e w' => e.ds = [] ∧ e.ρ 0 = .slice a ds.length c ∧ e.ρ 3 = .bool true ∧ e.ρ 4 = .pointer (some ⟨b, 0, none⟩) ∧ ∃ (i nx last : Nat) (P : List (Nat × Nat)) (l : List Nat) (vl : Value), i ≤ ds.length ∧ i ≤ 2000 ∧ l = P.map (·.1) ∧ e.ρ 7 = .int .i64 i ∧ e.ρ 6 = .int .u64 last ∧ e.ρ 5 = vl ∧ PInv i nx last P ∧ St w0 (PathsW b vl l nx P (NilB A)) w')
    (fun e _ => match e.ρ 7 with | .int _ x => (2000 - x).toNat | _ => 0) ?_ ?_
  · exact ⟨by simp -dsimp -implicitDefEqProofs only [go_sem], by simp -dsimp -implicitDefEqProofs only [go_sem], by simp -dsimp -implicitDefEqProofs only [go_sem], by simp -dsimp -implicitDefEqProofs only [go_sem], 0, 2, 1, [], [], _, by omega, by omega, rfl, by simp -dsimp -implicitDefEqProofs only [go_sem], by simp -dsimp -implicitDefEqProofs only [go_sem], by simp -dsimp -implicitDefEqProofs only [go_sem], PInv.nil, h2⟩
  clear h h1 hN h2
  rintro e w ⟨hd, e0, e3, e4, i, nx, last, P, l, vl, hi, hi2, hl, e7, e6, e5, inv, h⟩
  have hll : l.length = P.length := by rw [hl]; simp
  have hfew := inv.few
  obtain ⟨al, cl, rfl, _, hcl2⟩ := h.sw2.rowForm vl
  by_cases hgo : (i : Int) < ds.length ∧ (i : Int) < 2000
  case neg =>
    rcases (by omega : ¬ (i : Int) < ds.length ∨ ((i : Int) < ds.length ∧ ¬ (i : Int) < 2000)) with hlt | ⟨hlt, hlt2⟩
    case' inl => (simp -dsimp -implicitDefEqProofs (disch := omega) only [go_sem, reqD_of, dec_t, dec_f, wrap_i64, wrap_u32, wrap_u64, wrap_u8, hd, e0, e3, e4, e5, e6, e7, hlt])
    case' inr => (simp -dsimp -implicitDefEqProofs (disch := omega) only [go_sem, reqD_of, dec_t, dec_f, wrap_i64, wrap_u32, wrap_u64, wrap_u8, hd, e0, e3, e4, e5, e6, e7, hlt, hlt2])
    all_goals
      refine loop_intro (fun e w' => e.ds = [] ∧ e.ρ 3 = .bool true ∧ e.ρ 4 = .pointer (some ⟨b, 0, none⟩) ∧ e.ρ 5 = .slice al l.length cl ∧ ∃ j : Nat, j ≤ l.length ∧ e.ρ 17 = .int .i64 j ∧ e.ρ 16 = .int .u64 (atF l j) ∧ St w0 (PathsW b (.slice al l.length cl) l nx P (NilB A)) w')
        (fun e _ => match e.ρ 17 with | .int _ x => (l.length - x).toNat | _ => 0) ?_ ?_
      · exact ⟨by simp -dsimp -implicitDefEqProofs only [go_sem, hd], by simp -dsimp -implicitDefEqProofs only [go_sem, e3], by simp -dsimp -implicitDefEqProofs only [go_sem, e4], by simp -dsimp -implicitDefEqProofs only [go_sem, e5], 0, by omega, by simp -dsimp -implicitDefEqProofs only [go_sem], by simp -dsimp -implicitDefEqProofs only [go_sem]; rfl, h⟩
      clear h hd e0 e3 e4 e5 e6 e7 e w hgo
      rintro e w ⟨hd, e3, e4, e5, j, hj, e17, e16, h⟩
      have ha := at_after inv hl hj
      by_cases hjl : (j : Int) < l.length
      · have hj' : j < l.length := by omega
        rw [List.getElem?_eq_getElem hj'] at ha
        simp -dsimp -implicitDefEqProofs (disch := omega) only [go_sem, reqD_of, dec_t, dec_f, wrap_i64, wrap_u32, wrap_u64, wrap_u8, hd, e3, e4, e5, e17, e16, hjl]
        refine (after_any (p := 1) (last := atF l j) h).mono ?_
        rintro e' w1 ⟨h1, rfl⟩
        obtain ⟨g2, o2, rfl, pl⟩ := h1.sw2.atS (a := al) (n := l.length) (c := cl) (xs := l.map u64V) (k := j) (by simpa using hj')
        rw [List.getElem_map] at pl
        rw [ha, aftV]
        simp -dsimp -implicitDefEqProofs (disch := omega) only [go_sem, reqD_of, dec_t, dec_f, wrap_i64, wrap_u32, wrap_u64, wrap_u8, hd, e3, e4, e5, e17, e16, pl]
        refine ⟨⟨j + 1, by omega, by omega, ?_, h1⟩, by omega⟩
        unfold atF
        rw [if_neg (by omega)]
        simp [List.getD_eq_getElem?_getD, hj']
      · have hjn : l[j]? = none := List.getElem?_eq_none (by omega)
        rw [hjn] at ha
        simp -dsimp -implicitDefEqProofs (disch := omega) only [go_sem, reqD_of, dec_t, dec_f, wrap_i64, wrap_u32, wrap_u64, wrap_u8, hd, e3, e4, e5, e17, e16, hjl]
        refine (after_any (p := 1) (last := atF l j) h).mono ?_
        rintro e' w1 ⟨h1, rfl⟩
        rw [ha, aftV]
        simp -dsimp -implicitDefEqProofs (disch := omega) only [go_sem, reqD_of, dec_t, dec_f, wrap_i64, wrap_u32, wrap_u64, wrap_u8, hd, e3, e4, e5, e17, e16]
        exact h1.right.right.right
  obtain ⟨hlt, hlt2⟩ := hgo
  obtain ⟨g, o, rfl, hp⟩ := h.atS (a := a) (n := ds.length) (c := c) (xs := ds.map i64V) (k := i) (by simp; omega)
  rw [List.getElem_map] at hp
  have hz := hds _ (List.getElem_mem (show i < ds.length by omega))
  obtain ⟨z, hzz⟩ : ∃ z, z = ds[i] := ⟨_, rfl⟩
  rw [← hzz] at hp hz
  by_cases hdrop : (0 ≤ z ∧ 0 < l.length) ∨ l.length = 39
  · have hl0 : 0 < l.length := by omega
    obtain ⟨gl, ol, rfl, _⟩ := h.sw2.drew.atS (a := al) (n := l.length) (c := cl) (xs := l.map u64V) (k := 0) (by simpa using hl0)
    have hk := pickF_lt (c := z) hl0
    obtain ⟨k, hkk⟩ : ∃ k, k = pickF z l.length := ⟨_, rfl⟩
    rw [← hkk] at hk
    obtain ⟨q, hq⟩ : ∃ q, q = l[k] := ⟨_, rfl⟩
    have hkP : k < P.length := by omega
    have hqP : q = P[k].1 := by subst hl; rw [hq]; simp
    have hlo : ∀ x ∈ P, 2 ≤ x.1 := fun x hx => (inv.lo x hx).1
    have hdo := path_drop (nx := nx) hlo inv.rise hkP
    rw [← hqP] at hdo
    have hq2 : 2 ≤ q := by rw [hqP]; exact hlo _ (List.getElem_mem hkP)
    haveI g1 : Gives (RowU (.slice (some ⟨gl, ol, none⟩) l.length cl) l * NilB A) (RdB (.slice none 0 0) (dropO q).data) := ⟨(Ent.right _ _).trans (NilB.gives A rfl).ent⟩
    rcases (by omega : 0 ≤ z ∨ (¬ 0 ≤ z ∧ (l.length : Int) = 39)) with hz0 | ⟨hz0, hl39⟩
    case' inl => (simp -dsimp -implicitDefEqProofs (disch := omega) only [go_sem, reqD_of, dec_t, dec_f, wrap_i64, wrap_u32, wrap_u64, wrap_u8, hd, e0, e3, e4, e5, e6, e7, hlt, hlt2, hp, hz0])
    case' inr => (simp -dsimp -implicitDefEqProofs (disch := omega) only [go_sem, reqD_of, dec_t, dec_f, wrap_i64, wrap_u32, wrap_u64, wrap_u8, hd, e0, e3, e4, e5, e6, e7, hlt, hlt2, hp, hz0, hl39]; rw [← hl39])
    all_goals
      refine (pick_any h ⟨hz.1, hz.2⟩ ⟨hl0, by omega⟩).mono ?_
      rintro e' w1 ⟨h1, rfl⟩
      rw [← hkk]
      obtain ⟨_, _, hs, pl⟩ := h1.sw2.atS (a := some ⟨gl, ol, none⟩) (n := l.length) (c := cl) (xs := l.map u64V) (k := k) (by simpa using hk)
      simp only [Option.some.injEq, Addr.mk.injEq, and_true] at hs
      obtain ⟨rfl, rfl⟩ := hs
      rw [List.getElem_map, ← hq] at pl
      simp -dsimp -implicitDefEqProofs (disch := omega) only [go_sem, reqD_of, dec_t, dec_f, wrap_i64, wrap_u32, wrap_u64, wrap_u8, hd, e0, e3, e4, e5, e6, e7, pl]
      refine onV_of (v := .agg (opL (dropO q) (.slice none 0 0)).toArray) (by rfl) ?_
      simp -dsimp -implicitDefEqProofs (disch := omega) only [go_sem, reqD_of, dec_t, dec_f, wrap_i64, wrap_u32, wrap_u64, wrap_u8, hd, e0, e3, e4, e5, e6, e7, pl]
      refine (do_any (o := dropO q) (vd := .slice none 0 0) (dropO_in q) (by show 2 < 256; decide) (by show nx < _; have := inv.n1; omega) h1).mono ?_
      rintro e' w2 ⟨h2, rfl⟩
      rw [hdo] at h2 ⊢
      have h2 : St w0 (PathsW b (.slice (some ⟨gl, ol, none⟩) l.length cl) l nx (P.eraseIdx k) (NilB A)) w2 := h2
      simp -dsimp -implicitDefEqProofs (disch := omega) only [go_sem, reqD_of, dec_t, dec_f, wrap_i64, wrap_u32, wrap_u64, wrap_u8, hd, e0, e3, e4, e5, e6, e7]
      refine drop_head hk hcl2 (by omega) h2 fun v3 w3 h3 => ?_
      simp -dsimp -implicitDefEqProofs (disch := omega) only [go_sem, reqD_of, dec_t, dec_f, wrap_i64, wrap_u32, wrap_u64, wrap_u8, hd, e0, e3, e4, e5, e6, e7]
      refine drop_rest hk hcl2 (by omega) h3 fun v4 w4 h4 => ?_
      simp -dsimp -implicitDefEqProofs (disch := omega) only [go_sem, reqD_of, dec_t, dec_f, wrap_i64, wrap_u32, wrap_u64, wrap_u8, hd, e0, e3, e4, e5, e6, e7]
      refine ⟨⟨i + 1, nx, last, P.eraseIdx k, l.eraseIdx k, v4, by omega, by omega, ?_, by omega, rfl, rfl, inv.drop hkP, h4⟩, by omega⟩
      subst hl
      rw [List.eraseIdx_eq_take_drop_succ, List.eraseIdx_eq_take_drop_succ, List.map_append, List.map_take, List.map_drop]
  · have hn39 : ¬ (l.length : Int) = 39 := by omega
    have c0 := letter_0 i
    have c1 := letter_d (i := i) (d := 26) (by omega)
    have c2 := letter_d (i := i) (d := 676) (by omega)
    simp only [Int.cast_ofNat_Int] at c1 c2
    have hmk := path_make inv (by omega) (by omega)
    haveI g1 : Gives (RowU (.slice al l.length cl) l * NilB A) (RdB (.slice none 0 0) (makF 1 (lettersF i) 384).data) := ⟨(Ent.right _ _).trans (NilB.gives A rfl).ent⟩
    rcases (by omega : (0 ≤ z ∧ ¬ (0 : Int) < l.length) ∨ ¬ 0 ≤ z) with ⟨hz0, hn0⟩ | hz0
    case' inl => (simp -dsimp -implicitDefEqProofs (disch := omega) only [go_sem, reqD_of, dec_t, dec_f, wrap_i64, wrap_u32, wrap_u64, wrap_u8, hd, e0, e3, e4, e5, e6, e7, hlt, hlt2, hp, hz0, hn0, hn39])
    case' inr => (simp -dsimp -implicitDefEqProofs (disch := omega) only [go_sem, reqD_of, dec_t, dec_f, wrap_i64, wrap_u32, wrap_u64, wrap_u8, hd, e0, e3, e4, e5, e6, e7, hlt, hlt2, hp, hz0, hn39])
    all_goals
      refine (next_any h).mono ?_
      rintro e' w1 ⟨h1, rfl⟩
      simp -dsimp -implicitDefEqProofs (disch := omega) only [go_sem, reqD_of, dec_t, dec_f, wrap_i64, wrap_u32, wrap_u64, wrap_u8, hd, e0, e3, e4, e5, e6, e7]
      rw [c0, c1, c2]
      refine h1.lit (t := 51) (n := 3) (cells := (lettersF i).map bv) rowTy_bytes rfl (by decide) (by decide) fun v2 w2 h2 => ?_
      have h2 : St w0 (RowO 5 1 v2 (lettersF i).length ((lettersF i).map bv) * (StoreP b 0 0 (pathS nx P) * (RowU (.slice al l.length cl) l * NilB A))) w2 := h2
      simp -dsimp -implicitDefEqProofs (disch := omega) only [go_sem, reqD_of, dec_t, dec_f, wrap_i64, wrap_u32, wrap_u64, wrap_u8, hd, e0, e3, e4, e5, e6, e7]
      refine St.str (bs := lettersF i) h2 ((Ent.left _ _).trans (RowO.reads _ _ _ _ _)) Tryd.underlying51 Tryd.underlying5 Tryd.underlying9 ?_
      simp -dsimp -implicitDefEqProofs (disch := omega) only [go_sem, reqD_of, dec_t, dec_f, wrap_i64, wrap_u32, wrap_u64, wrap_u8, hd, e0, e3, e4, e5, e6, e7]
      refine (mak_any (p := 1) (nm := lettersF i) (m := 384) h2.right).mono ?_
      rintro e' w3 ⟨h3, rfl⟩
      simp -dsimp -implicitDefEqProofs (disch := omega) only [go_sem, reqD_of, dec_t, dec_f, wrap_i64, wrap_u32, wrap_u64, wrap_u8, hd, e0, e3, e4, e5, e6, e7]
      refine (do_any (o := makF 1 (lettersF i) 384) (vd := .slice none 0 0) (mak_in (by decide) (by show 3 ≤ _; decide)) (by show 1 < 256; decide) (by show nx < _; have := inv.n1; omega) h3).mono ?_
      rintro e' w4 ⟨h4, rfl⟩
      rw [hmk] at h4 ⊢
      have hla := inv.la
      have hn1 := inv.n1
      have hnx : (pathS nx P).next = nx := rfl
      simp -dsimp -implicitDefEqProofs (disch := omega) only [go_sem, reqD_of, dec_t, dec_f, wrap_i64, wrap_u32, wrap_u64, wrap_u8, hd, e0, e3, e4, e5, e6, e7, hnx]
      have h4 : St w0 (PathsW b (.slice al l.length cl) l (nx + 1) (P ++ [(nx, i)]) (NilB A)) w4 := h4
      refine h4.lit (t := 63) (n := 1) (cells := [u64V nx]) rowTy_u64 rfl (by decide) (by decide) fun v5 w5 h5 => ?_
      simp -dsimp -implicitDefEqProofs (disch := omega) only [go_sem, reqD_of, dec_t, dec_f, wrap_i64, wrap_u32, wrap_u64, wrap_u8, hd, e0, e3, e4, e5, e6, e7]
      refine h5.appR (v := .slice al l.length cl) (x := v5) rowTy_u64 Tryd.underlying63 (fun u hu => by simp at hu; subst hu; rfl) (by simp) (show _ ≤ 9223372036854775807 by omega) (by omega) fun v6 w6 h6 => ?_
      simp -dsimp -implicitDefEqProofs (disch := omega) only [go_sem, reqD_of, dec_t, dec_f, wrap_i64, wrap_u32, wrap_u64, wrap_u8, hd, e0, e3, e4, e5, e6, e7]
      have h7 : St w0 (PathsW b v6 (l ++ [nx]) (nx + 1) (P ++ [(nx, i)]) (NilB A)) w6 := by
        have h6 := h6.right
        show St w0 (_ * (RowO _ 1 v6 (l ++ [nx]).length ((l ++ [nx]).map u64V) * _)) w6
        rw [List.length_append, List.map_append]
        exact h6
      refine ⟨⟨i + 1, nx + 1, nx, P ++ [(nx, i)], l ++ [nx], v6, by omega, by omega, ?_, by omega, rfl, rfl, inv.make (by omega), h7⟩, by omega⟩
      subst hl
      simp
end
end
end Go.Proofs.YtijnmokpihhhcaaDoor

namespace Go.Proofs.YtijnmokpihhhcaaDoor
open Go
set_option linter.unusedVariables false
set_option linter.unusedSimpArgs false
set_option maxRecDepth 100000

theorem one_most (s : SD) (p : Nat) (r : Except Nat NodeD) : (oneF s p r).1.most = s.most := by cases r <;> rfl
theorem do_most (s : SD) (o : OpD) : (doF s o).1.most = s.most := by
  unfold doF
  split
  · rfl
  split
  · rfl
  split
  · unfold makeF; split <;> (try rfl) <;> split <;> (try rfl) <;> split <;> (try rfl) <;> split <;> (try rfl) <;> split <;> rfl
  split
  · unfold delF; split <;> (try rfl) <;> split <;> rfl
  split
  · unfold callF; split <;> (try rfl) <;> split <;> (try rfl) <;> split <;> (try rfl) <;> split <;> rfl
  split
  · exact one_most _ _ _
  split
  · exact one_most _ _ _
  split
  · exact one_most _ _ _
  · exact one_most _ _ _
theorem run_most (s : SD) (ops : List OpV) : (runF s ops).most = s.most := by
  induction ops generalizing s with
  | nil => rfl
  | cons x ops ih =>
    show (runF (doF s x.o).1 ops).most = _
    rw [ih, do_most]
section
variable {w0 w : World} {A : HP} {ops : List OpV} {a : Option Addr} {c : Nat}
section
attribute [local go_sem] F7.t10_eq F7.t11_eq F7.t8_eq F7.t4_eq
theorem tree_t12 {b : Nat} {S : SD} {n : Nat} {e : FA} (wS : Wf S) (hrn : RN S) (hmost : S.most = n) (hn : n ≤ 300)
    (hd : e.ds = []) (e5 : e.ρ 5 = .bool true) (e6 : e.ρ 6 = .int .i64 n) (e7 : e.ρ 7 = .pointer (some ⟨b, 0, none⟩)) (h : St w0 (StoreP b 0 0 S * A) w) :
    cwE Tryd.prog F7.t12 (fnP Tryd.prog #[.tmp 4] fun e w' => St w0 A w' ∧ e = .returned (.bool true)) e w := by
  rw [F7.t12_eq]
  have hlen := tell_len S
  have hf := wS.few
  obtain ⟨h0, _, _⟩ := head_law wS
  simp -dsimp -implicitDefEqProofs (disch := omega) only [go_sem, reqD_of, dec_t, dec_f, wrap_i64, wrap_u32, wrap_u64, wrap_u8, hd, e5, e6, e7]
  refine (list_any wS h).mono ?_
  rintro e' w1 ⟨v, h1, rfl⟩
  obtain ⟨a, c, rfl, _⟩ := h1.rowForm v
  obtain ⟨l, hl⟩ : ∃ l, l = tellL S := ⟨_, rfl⟩
  rw [← hl] at h1 hlen ⊢
  have hl0 : 0 < l.length := by omega
  obtain ⟨g, o, rfl, _, _⟩ := h1.infAt ((Ent.left _ _).trans (RowO.reads _ _ _ _ _)) hl0
  have hr : Ent (NodeL (.slice (some ⟨g, o, none⟩) l.length c) l * A) (Reads 13 (.slice (some ⟨g, o, none⟩) l.length c) l.length (l.flatMap infL)) := (Ent.left _ _).trans (RowO.reads _ _ _ _ _)
  have h2 : St w0 (StoreP b 0 0 S * (NodeL (.slice (some ⟨g, o, none⟩) l.length c) l * A)) w1 := h1.sw2
  simp -dsimp -implicitDefEqProofs (disch := omega) only [go_sem, reqD_of, dec_t, dec_f, wrap_i64, wrap_u32, wrap_u64, wrap_u8, hd, e5, e6, e7]
  refine (sound_any (S := S) (l := l) (most := n) wS hrn hl (by omega) ((Ent.right _ _).trans hr) h2).mono ?_
  rintro e' w2 ⟨h3, rfl⟩
  simp -dsimp -implicitDefEqProofs (disch := omega) only [go_sem, reqD_of, dec_t, dec_f, wrap_i64, wrap_u32, wrap_u64, wrap_u8, hd, e5, e6, e7]
  refine (found_any (S := S) (l := l) wS hl hr h3).mono ?_
  rintro e' w3 ⟨h4, rfl⟩
  simp -dsimp -implicitDefEqProofs (disch := omega) only [go_sem, reqD_of, dec_t, dec_f, wrap_i64, wrap_u32, wrap_u64, wrap_u8, hd, e5, e6, e7]
  refine (count_any h4).mono ?_
  rintro e' w4 ⟨h5, rfl⟩
  simp -dsimp -implicitDefEqProofs (disch := omega) only [go_sem, reqD_of, dec_t, dec_f, wrap_i64, wrap_u32, wrap_u64, wrap_u8, hd, e5, e6, e7]
  refine (next_any h5).mono ?_
  rintro e' w5 ⟨h6, rfl⟩
  have hle : S.L.length - 1 < l.length := by omega
  have hlS : S.L.length - 1 < S.L.length := by omega
  have te : l[S.L.length - 1] = tellF S.L (S.L[S.L.length - 1]) := by subst hl; exact tell_at S hlS
  obtain ⟨_, ce⟩ := h6.right.infG hr hle
  have c0 : w5.cell? ⟨g, o + (S.L.length - 1) * 13, none⟩ = some (.int .u64 (S.L[S.L.length - 1]).i.path) := by have := ce 0 (by decide); rw [te] at this; exact this
  have hnx : ((S.L[S.L.length - 1]).i.path : Int) < S.next := by have := (wS.below _ (List.getElem_mem hlS)).2; omega
  have hle2 : (l.length : Int) = S.L.length := by omega
  have it : ((S.L.length : Int) - 1).toNat = S.L.length - 1 := by omega
  rw [hlen]
  simp -dsimp -implicitDefEqProofs (disch := omega) only [go_sem, reqD_of, dec_t, dec_f, wrap_i64, wrap_u32, wrap_u64, wrap_u8, hd, e5, e6, e7, it, c0, hnx]
  exact h6.right.right

theorem tree_any [Gives A Tabs] {most : Int} (hm : -9223372036854775808 ≤ most ∧ most ≤ 9223372036854775807) (hP : OpsP A (.slice a ops.length c) ops) (h : St w0 A w) :
    Calls Tryd.prog 7 #[.int .i64 most, .slice a ops.length c] w fun e w' => St w0 A w' ∧ e = .returned (.bool true) := by
  refine F7.calls (by simp) ?_
  unfold F7.code
  simp -dsimp -implicitDefEqProofs (disch := omega) only [go_sem, reqD_of, dec_t, dec_f, wrap_i64, wrap_u32, wrap_u64, wrap_u8]
  refine (works_any h).mono ?_
  rintro e w1 ⟨h1, rfl⟩
  simp -dsimp -implicitDefEqProofs (disch := omega) only [go_sem, reqD_of, dec_t, dec_f, wrap_i64, wrap_u32, wrap_u64, wrap_u8]
  refine (ofOps_any hP (n := 0) (by omega) h1).mono ?_
  rintro e w2 ⟨h2, k, rfl, hk⟩
  by_cases hbig : (8388608 : Int) < k
  · simp -dsimp -implicitDefEqProofs (disch := omega) only [go_sem, reqD_of, dec_t, dec_f, wrap_i64, wrap_u32, wrap_u64, wrap_u8, hbig]
    exact h2
  have hw := hk (by omega)
  have hfew := wt_len ops
  simp -dsimp -implicitDefEqProofs (disch := omega) only [go_sem, reqD_of, dec_t, dec_f, wrap_i64, wrap_u32, wrap_u64, wrap_u8, hbig]
  refine (pick_any (c := most) (n := 300) h2 hm (by decide)).mono ?_
  rintro e w3 ⟨h3, rfl⟩
  obtain ⟨q, hq⟩ : ∃ q, q = pickF most 300 := ⟨_, rfl⟩
  have hq2 : q < 300 := by rw [hq]; exact pickF_lt (by decide)
  rw [← hq]
  simp -dsimp -implicitDefEqProofs (disch := omega) only [go_sem, reqD_of, dec_t, dec_f, wrap_i64, wrap_u32, wrap_u64, wrap_u8]
  rw [show (1 : Int) + (q : Int) = ((1 + q : Nat) : Int) by omega]
  refine (store_any (n := 1 + q) (by omega) h3).mono ?_
  rintro e w4 ⟨b, h4, rfl⟩
  have w0f := store_wf (n := 1 + q) (by omega)
  simp -dsimp -implicitDefEqProofs (disch := omega) only [go_sem, reqD_of, dec_t, dec_f, wrap_i64, wrap_u32, wrap_u64, wrap_u8]
  refine loop_intro (fun e w' => e.ds = [] ∧ e.ρ 1 = .slice a ops.length c ∧ e.ρ 5 = .bool true ∧ e.ρ 6 = .int .i64 (1 + q : Nat) ∧ e.ρ 7 = .pointer (some ⟨b, 0, none⟩) ∧ ∃ i : Nat, i ≤ ops.length ∧ e.ρ 8 = .int .i64 i ∧ St w0 (StoreP b 0 0 (runF (storeF (1 + q)) (ops.take i)) * A) w')
    (fun e _ => match e.ρ 8 with | .int _ k => (ops.length - k).toNat | _ => 0) ?_ ?_
  · exact ⟨by simp -dsimp -implicitDefEqProofs only [go_sem], by simp -dsimp -implicitDefEqProofs only [go_sem], by simp -dsimp -implicitDefEqProofs only [go_sem], by simp -dsimp -implicitDefEqProofs only [go_sem], by simp -dsimp -implicitDefEqProofs only [go_sem], 0, by omega, by simp -dsimp -implicitDefEqProofs only [go_sem], h4⟩
  clear h h1 h2 h3 h4
  rintro e w ⟨hd, e1, e5, e6, e7, i, hi, e8, h⟩
  by_cases hlt : (i : Int) < ops.length
  case neg =>
    have : i = ops.length := by omega
    subst this
    rw [List.take_length] at h
    simp -dsimp -implicitDefEqProofs (disch := omega) only [go_sem, reqD_of, dec_t, dec_f, wrap_i64, wrap_u32, wrap_u64, wrap_u8, hd, e1, e5, e6, e7, e8, hlt]
    exact tree_t12 (b := b) (S := runF (storeF (1 + q)) ops) (n := 1 + q) (run_wf w0f hP.each) (run_rn w0f (store_rn _) hP.each) (run_most _ _) (by omega) (by simp -dsimp -implicitDefEqProofs only [go_sem, hd]) (by simp -dsimp -implicitDefEqProofs only [go_sem, e5]) (by simp -dsimp -implicitDefEqProofs only [go_sem, e6]) (by simp -dsimp -implicitDefEqProofs only [go_sem, e7]) h
  have hil : i < ops.length := by omega
  obtain ⟨_, a', c', hv, _, hat⟩ := St.rowsAt opVL_len (by decide) (h.right.ent hP.rd)
  simp only [Value.slice.injEq, true_and] at hv
  obtain ⟨rfl, rfl⟩ := hv
  obtain ⟨g, o, rfl, hrow, _⟩ := hat i hil
  have hx := hP.each _ (List.getElem_mem hil)
  have hwx := wt_mem (List.getElem_mem hil)
  have hnx := run_next (storeF (1 + q)) (ops.take i)
  have hn2 : (storeF (1 + q)).next = 2 := rfl
  have hln : (ops.take i).length = i := by simp; omega
  haveI : Gives A (RdB ops[i].v ops[i].o.data) := ⟨hx.data⟩
  simp -dsimp -implicitDefEqProofs (disch := omega) only [go_sem, reqD_of, dec_t, dec_f, wrap_i64, wrap_u32, wrap_u64, wrap_u8, hd, e1, e5, e6, e7, e8, hlt, hrow]
  refine (do_any (o := ops[i].o) (vd := ops[i].v) (hx.in_ (by omega)) hx.kind (by omega) h).mono ?_
  rintro e' w1 ⟨h1, rfl⟩
  rw [← run_take _ hil] at h1
  simp -dsimp -implicitDefEqProofs (disch := omega) only [go_sem, reqD_of, dec_t, dec_f, wrap_i64, wrap_u32, wrap_u64, wrap_u8, hd, e1, e5, e6, e7, e8]
  exact ⟨⟨i + 1, by omega, by omega, h1⟩, by omega⟩
end
end
end Go.Proofs.YtijnmokpihhhcaaDoor

namespace Go.Proofs.YtijnmokpihhhcaaDoor
open Go
set_option linter.unusedVariables false
set_option linter.unusedSimpArgs false
set_option maxRecDepth 100000

abbrev rOq := rCons 1 (rInt .u8) (rCons 1 (rInt .u64) (rCons 1 rStr (rCons 1 (rInt .u8) (rCons 13 rInf (rCons 1 (rInt .u64) (rCons 1 rBytes (rCons 1 (rInt .i64) (rEnd))))))))
theorem rOq_cells {x} {cs : List Value} {h : Heap} (r : rOq.rel x cs h) : ∃ y : OpV, cs = opVL y ∧ OpIs y h := by
  obtain ⟨x1, x2, x3, x4, ⟨y1, y2, y3, y4, y5, y6, y7, y8, y9, y10, y11, y12, y13, _⟩, x6, bs, x8, _⟩ := x
  obtain ⟨_, _, rfl, _, ⟨rfl, w1⟩, _, _, rfl, _, ⟨rfl, w2⟩, _, _, rfl, _, ⟨rfl, w3⟩, _, _, rfl, _, ⟨rfl, w4⟩, ci, _, rfl, _, ri, _, _, rfl, _, ⟨rfl, w6⟩, cd, _, rfl, hl7, ⟨v, rfl, hb, hbl⟩, _, _, rfl, _, ⟨rfl, w8⟩, rfl⟩ := r
  obtain ⟨_, _, rfl, _, ⟨rfl, i1⟩, _, _, rfl, _, ⟨rfl, i2⟩, _, _, rfl, _, ⟨rfl, i3⟩, _, _, rfl, _, ⟨rfl, i4⟩, _, _, rfl, _, ⟨rfl, i5⟩, _, _, rfl, _, ⟨rfl, i6⟩, _, _, rfl, _, ⟨rfl, i7⟩, _, _, rfl, _, ⟨rfl, i8⟩, _, _, rfl, _, ⟨rfl, i9⟩, _, _, rfl, _, ⟨rfl, i10⟩, _, _, rfl, _, ⟨rfl, i11⟩, _, _, rfl, _, ⟨rfl, i12⟩, _, _, rfl, _, ⟨rfl, i13⟩, rfl⟩ := ri
  obtain ⟨a1, a2⟩ := wf_u8 w1
  obtain ⟨b1, b2⟩ := wf_u64 w2
  obtain ⟨c1, c2⟩ := wf_u8 w4
  obtain ⟨d1, d2⟩ := wf_u64 w6
  obtain ⟨e1, e2⟩ := wf_i64 w8
  obtain ⟨f1, f2⟩ := wf_u64 i1
  obtain ⟨g1, g2⟩ := wf_u64 i2
  obtain ⟨h1, h2⟩ := wf_u32 i4
  obtain ⟨k1, k2⟩ := wf_u32 i8
  obtain ⟨l1, l2⟩ := wf_u32 i9
  obtain ⟨m1, m2⟩ := wf_u32 i10
  obtain ⟨n1, n2⟩ := wf_u64 i11
  have hq : reachBytes = 140737488351232 := rfl
  have hbl : bs.length ≤ reachBytes := hbl
  refine ⟨⟨⟨x1.toNat, x2.toNat, x3.data.toList, x4.toNat, ⟨y1.toNat, y2.toNat, y3.data.toList, y4.toNat, y5.data.toList, y6.data.toList, y7.data.toList, y8.toNat, y9.toNat, y10.toNat, y11.toNat, y12, y13⟩, x6.toNat, bs, x8⟩, v⟩, ?_, ⟨a2, c2, d2, h2, k2, l2, e1, e2, hb, (by show bs.length ≤ 140737488355328; omega), str_reach w3, str_reach i3, str_reach i5, str_reach i6, str_reach i7⟩⟩
  simp only [opVL, opL, strOf_eta, a1, b1, c1, d1, f1, g1, h1, k1, l1, m1, n1, List.cons_append, List.nil_append]
theorem ops_arq {W : World} {xs} {v : Value} (c : (rSlice 20 208 rOq).rel xs [v] (heapOf W)) : ∃ ops : List OpV, (∃ a c, v = .slice a ops.length c) ∧ OpsP (Old W) v ops := by
  obtain ⟨ops, hl, h1, h2⟩ := rSlice_choose (β := OpV) (enc := opVL) (p := OpIs) (fun x cs h r => rOq_cells r) opVL_len c
  have hb := rSlice_len c
  have hq : reachBytes = 140737488351232 := rfl
  have hr : Ent (Old W) (Reads 20 v ops.length (ops.flatMap opVL)) := Ent.of fun _ ho => Reads.mono (fun b o e => ho b o e) h2
  obtain ⟨_, a, c', e, _⟩ := St.rowsAt opVL_len (by decide) ((St.start W).ent hr)
  exact ⟨ops, ⟨a, c', e⟩, hr, fun y hy => (h1 y hy).a, by omega⟩
end Go.Proofs.YtijnmokpihhhcaaDoor
