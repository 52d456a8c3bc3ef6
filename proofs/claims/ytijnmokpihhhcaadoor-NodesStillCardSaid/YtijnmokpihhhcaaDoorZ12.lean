/- A node is no more. · A node is called otherwise. · A node is called otherwise: the walk. · Operations: turn, Do. · A store of the root alone. · The law's first helpers: store, mak. · What the chapter's first and third examples fix. · What the chapter's first and third examples fix: the walk. · NodesNames: the walk. · Arguments that are rows of structs with slices in them, as rows that are read. · Arguments that are rows of numbers or of texts, as rows that are read. · Operations handed in, and their weight. · Operations handed in: their weight, and a store behind them. · Paths rise: the plain law. · Loops over functions whose rounds begin with memory of their own. · All nodes, one by one; in a list. · All nodes in a list. · A list of numbers, copied. · A store like another one: the blocks of one node. · A store like another one: the nodes. · A store like another one. · The same bytes in the files of a list. · Two operations about two nodes: the order does not matter. · NodesTurns: the walk. · An operation changes what it is about: the plain law. -/
import Derived.Test.YtijnmokpihhhcaaDoorZ1
import Derived.Test.YtijnmokpihhhcaaDoorZ2
import Derived.Test.YtijnmokpihhhcaaDoorZ3
import Derived.Test.YtijnmokpihhhcaaDoorZ4
import Derived.Test.YtijnmokpihhhcaaDoorZ5
import Derived.Test.YtijnmokpihhhcaaDoorZ6
import Derived.Test.YtijnmokpihhhcaaDoorZ7
import Derived.Test.YtijnmokpihhhcaaDoorZ8
import Derived.Test.YtijnmokpihhhcaaDoorZ9
import Derived.Test.YtijnmokpihhhcaaDoorZ10
import Derived.Test.YtijnmokpihhhcaaDoorZ11
import Derived.SizedLaws
namespace Go.Proofs.YtijnmokpihhhcaaDoor
open Go
set_option linter.unusedVariables false
set_option linter.unusedSimpArgs false
set_option maxRecDepth 100000

theorem drop_paths (L : List NodeD) (p : Nat) : (dropN L p).map (·.i.path) = (L.map (·.i.path)).filter fun k => !(k == p) := by
  unfold dropN
  rw [List.filter_map]; rfl

section
variable {w0 w : World} {A : HP} {b B K : Nat} {s : SD} {y : SX} {X1 X2 : List NN} {x : NN} {t : Inf} {st rc : Int} {e : FA} {R : Ending → World → Prop}

section
attribute [local go_sem] F66.t6_eq
theorem drop_any (ok : StoreOk s y) (hs : y.X = X1 ++ x :: X2) (hw : Wf (delF s x.d).1) (h : St w0 (StoreQ b st rc s y * A) w) :
    Calls Tryd.prog 66 #[.pointer (some ⟨b, 0, none⟩), .pointer (some ⟨x.n, 0, none⟩)] w (TurnR w0 A b st rc (delF s x.d)) := by
  have hx : x ∈ y.X := by rw [hs]; simp
  have hdm : x.d ∈ s.L := ok.perm.mem_iff.1 (List.mem_map.2 ⟨x, hx, rfl⟩)
  have hks := ok.kids x hx
  have few := ok.wf.few
  have most := ok.wf.most
  have h0 := h.ac (StoreQ.eq hs)
  obtain ⟨a, c, hvk, hl0, hnc, hcm⟩ := h0.rowForm x.vk
  refine F66.calls (by simp) ?_
  unfold F66.code
  by_cases c1 : (x.d.i.path : Int) = 1
  · have hr : delF s x.d = (s, 0, 81) := by unfold delF; rw [if_pos (by omega)]
    rw [hr]
    simp -dsimp -implicitDefEqProofs (disch := omega) only [go_sem, reqD_of, dec_t, dec_f, wrap_i64, wrap_u32, wrap_u64, wrap_u8, h0.cl x.n, c1]
    exact ⟨y, ok, h0.ac (StoreQ.eq hs).symm, rfl⟩
  by_cases c2 : (0 : Int) < (x.ks.length : Int)
  · have hr : delF s x.d = (s, 0, 85) := by unfold delF; rw [if_neg (by omega), if_pos (by rw [← hks]; omega)]
    rw [hr]
    simp -dsimp -implicitDefEqProofs (disch := omega) only [go_sem, reqD_of, dec_t, dec_f, wrap_i64, wrap_u32, wrap_u64, wrap_u8, h0.cl x.n, c1, hvk, c2]
    exact ⟨y, ok, h0.ac (StoreQ.eq hs).symm, rfl⟩
  have h1 : x.d.i.path ≠ 1 := by omega
  have hr : delF s x.d = ({ s with L := dropN s.L x.d.i.path }, x.d.i.path, 0) := by unfold delF; rw [if_neg h1, if_neg (by rw [← hks]; omega)]
  rw [hr] at hw ⊢
  obtain ⟨hup, d, hfd, _⟩ := ok.wf.up _ hdm h1
  obtain ⟨Y1, z, Y2, hy, rfl, hzy, hlz⟩ := ok.some hfd
  have hzp := (find_some hfd).2
  have hzx : z ∈ X1 ++ X2 := by
    rw [hs] at hzy
    rcases List.mem_append.1 hzy with h | h
    · simp [h]
    · rcases List.mem_cons.1 h with h | h
      · subst h; omega
      · simp [h]
  obtain ⟨Z1, Z2, hz⟩ := List.append_of_mem hzx
  have h2 : St w0 (NodeB x.n 0 x.d.i x.vk x.vb * (RowU x.vk x.ks * (BlksP x.vb x.P * (NodeB z.n 0 z.d.i z.vk z.vb * (RowU z.vk z.ks * (BlksP z.vb z.P * (StoreR b st rc s y (y.X.map kv) (Z1 ++ Z2) * A))))))) w := by
    have e1 : starL nodeP (X1 ++ X2) = NodeB z.n 0 z.d.i z.vk z.vb * (RowU z.vk z.ks * BlksP z.vb z.P) * starL nodeP (Z1 ++ Z2) := by
      rw [hz, starL_split]; rfl
    refine h0.ac ?_
    simp only [StoreR]
    rw [e1]
    ac_rfl
  simp -dsimp -implicitDefEqProofs (disch := omega) only [go_sem, reqD_of, dec_t, dec_f, wrap_i64, wrap_u32, wrap_u64, wrap_u8, h2.cl x.n, c1, hvk, c2, h2.drew.cl x.n, h2.drew.cl b]
  refine h2.drew.lkH (b := y.N) (x := (x.d.i.parent : Int)) Tryd.underlying93 lawU zero_ptr ?_
  rw [hlz]
  simp -dsimp -implicitDefEqProofs (disch := omega) only [go_sem, reqD_of, dec_t, dec_f, wrap_i64, wrap_u32, wrap_u64, wrap_u8, lkV, h2.drew.cl x.n, h2.drew.cl b, h2.drew.cl z.n]
  have hzks := ok.kids z hzy
  have hzl := kids_len s.L z.d.i.path
  have h3 : St w0 (RowU z.vk z.ks * (NodeB x.n 0 x.d.i x.vk x.vb * (NodeB z.n 0 z.d.i z.vk z.vb * (BlksP z.vb z.P * (StoreR b st rc s y (y.X.map kv) (Z1 ++ Z2) * A))))) w.drew := by
    have := h2.drew
    refine St.right (A := RowU x.vk x.ks * BlksP x.vb x.P) (this.ac ?_)
    ac_rfl
  refine (without_any (l := z.ks) h3 (by rw [hzks]; exact kids_rise ok.wf _) (by rw [hzks]; omega)).mono ?_
  rintro e w4 ⟨v4, h4, rfl⟩
  obtain ⟨a4, c4, rfl, _⟩ := h4.rowForm v4
  simp -dsimp -implicitDefEqProofs (disch := omega) only [go_sem, reqD_of, dec_t, dec_f, wrap_i64, wrap_u32, wrap_u64, wrap_u8, h4.cl z.n]
  refine h4.sto (b := z.n) (by simp) rfl fun w5 h5 => ?_
  simp only [List.setIfInBounds_toArray, List.set_cons_succ, List.set_cons_zero] at h5
  simp -dsimp -implicitDefEqProofs (disch := omega) only [go_sem, reqD_of, dec_t, dec_f, wrap_i64, wrap_u32, wrap_u64, wrap_u8, h5.cl b]
  obtain ⟨zk, hzk⟩ : ∃ zk, zk = z.ks.filter fun k => !(k == x.d.i.path) := ⟨_, rfl⟩
  rw [← hzk] at h5
  have h6 : St w0 (RowU y.ov (s.L.map (·.i.path)) * (RowU (.slice a4 zk.length c4) zk * (NodeB x.n 0 x.d.i x.vk x.vb * (NodeB z.n 0 z.d.i (.slice a4 zk.length c4) z.vb * (BlksP z.vb z.P * (StoreB b st rc s y * (MapP encU y.N (y.X.map kv) * (MapP encK y.C y.cl * (starL nodeP (Z1 ++ Z2) * A))))))))) w5 := by
    refine St.ac (A := RowU (.slice a4 zk.length c4) zk * (NodeB x.n 0 x.d.i x.vk x.vb * (NodeB z.n 0 z.d.i (.slice a4 zk.length c4) z.vb * (BlksP z.vb z.P * (StoreR b st rc s y (y.X.map kv) (Z1 ++ Z2) * A))))) h5 ?_
    simp only [StoreR]
    ac_rfl
  refine (without_any (l := s.L.map (·.i.path)) h6 (rise_paths.1 ok.wf.rise) (by simp; omega)).mono ?_
  rintro e w7 ⟨v7, h7, rfl⟩
  obtain ⟨a7, c7, rfl, _⟩ := h7.rowForm v7
  simp -dsimp -implicitDefEqProofs (disch := omega) only [go_sem, reqD_of, dec_t, dec_f, wrap_i64, wrap_u32, wrap_u64, wrap_u8, h7.cl b]
  refine h7.sto (b := b) (by simp) rfl fun w8 h8 => ?_
  simp only [List.setIfInBounds_toArray, List.set_cons_succ, List.set_cons_zero] at h8
  simp -dsimp -implicitDefEqProofs (disch := omega) only [go_sem, reqD_of, dec_t, dec_f, wrap_i64, wrap_u32, wrap_u64, wrap_u8, h8.drew.cl b, h8.drew.cl x.n]
  refine onV_of (v := encK (x.d.i.parent, x.d.i.name)) (by kernel_rfl) ?_
  simp -dsimp -implicitDefEqProofs (disch := omega) only [go_sem, reqD_of, dec_t, dec_f, wrap_i64, wrap_u32, wrap_u64, wrap_u8, h8.drew.cl b, h8.drew.cl x.n]
  have hcl := h8.mapNodup y.C
  refine h8.drew.delH (b := y.C) (x := ((x.d.i.parent, x.d.i.name) : KD)) Tryd.underlying94 lawK fun w9 h9 => ?_
  simp -dsimp -implicitDefEqProofs (disch := omega) only [go_sem, reqD_of, dec_t, dec_f, wrap_i64, wrap_u32, wrap_u64, wrap_u8, h9.cl b, h9.cl x.n]
  refine h9.delH (b := y.N) (x := (x.d.i.path : Int)) Tryd.underlying93 lawU fun w10 h10 => ?_
  simp -dsimp -implicitDefEqProofs (disch := omega) only [go_sem, reqD_of, dec_t, dec_f, wrap_i64, wrap_u32, wrap_u64, wrap_u8, h10.cl b]
  have hnk : (x.d.i.path : Int) ∉ (X1.map kv).map (·.1) := by
    have := ok.keys
    rw [hs, List.map_append, List.map_cons, List.map_append, List.map_cons, List.nodup_append] at this
    intro hm
    exact this.2.2 _ hm _ List.mem_cons_self rfl
  obtain ⟨z', hz'⟩ : ∃ z' : NN, z' = { z with vk := .slice a4 zk.length c4, ks := z.ks.filter fun k => !(k == x.d.i.path) } := ⟨_, rfl⟩
  have e1 : del (x.d.i.path : Int) (y.X.map kv) = (Z1 ++ z' :: Z2).map kv := by
    have e2 : y.X.map kv = X1.map kv ++ ((x.d.i.path : Int), .pointer (some ⟨x.n, 0, none⟩)) :: X2.map kv := by rw [hs, List.map_append, List.map_cons]; rfl
    rw [e2, del_mid hnk, ← List.map_append, hz, hz']
    simp [kv]
  obtain ⟨of, hof⟩ : ∃ of, of = (s.L.map (·.i.path)).filter fun k => !(k == x.d.i.path) := ⟨_, rfl⟩
  rw [← hof] at h10
  refine ⟨_, storeOk_drop (vk' := .slice a4 zk.length c4) (ov' := .slice a7 of.length c7) ok hs hz hzp h1 hcl hw, ?_, rfl⟩
  rw [← hz']
  obtain ⟨Mc, hMc⟩ : ∃ Mc, Mc = MapP encK y.C (del ((x.d.i.parent, x.d.i.name) : KD) y.cl) := ⟨_, rfl⟩
  obtain ⟨Mn, hMn⟩ : ∃ Mn, Mn = MapP encU y.N (del (x.d.i.path : Int) (y.X.map kv)) := ⟨_, rfl⟩
  have h11 : St w0 (RowU (.slice a7 of.length c7) of * (RowU (.slice a4 zk.length c4) zk * (NodeB x.n 0 x.d.i x.vk x.vb * (NodeB z.n 0 z.d.i (.slice a4 zk.length c4) z.vb * (BlksP z.vb z.P * (Blk b (.cells (storeC st rc s.most s.next (.map (some y.N)) (.slice a7 of.length c7) (.map (some y.C))) 101 (0, 0)) * (Mn * (Mc * (starL nodeP (Z1 ++ Z2) * A))))))))) w10 := by
    rw [hMc, hMn]; exact h10
  have e3 : nodeP z' = NodeB z.n 0 z.d.i (.slice a4 zk.length c4) z.vb * (RowU (.slice a4 zk.length c4) zk * BlksP z.vb z.P) := by rw [hz', hzk]; rfl
  show St w0 (Blk b (.cells (storeC st rc s.most s.next (.map (some y.N)) (.slice a7 of.length c7) (.map (some y.C))) 101 (0, 0)) * (MapP encU y.N ((Z1 ++ z' :: Z2).map kv) * (MapP encK y.C (del ((x.d.i.parent, x.d.i.name) : KD) y.cl) * (RowU (.slice a7 of.length c7) ((dropN s.L x.d.i.path).map (·.i.path)) * starL nodeP (Z1 ++ z' :: Z2)))) * A) w10
  rw [← hMc, ← e1, ← hMn, drop_paths, ← hof, starL_split, e3]
  refine St.right (A := NodeB x.n 0 x.d.i x.vk x.vb) (h11.ac ?_)
  ac_rfl
end
end
end Go.Proofs.YtijnmokpihhhcaaDoor

namespace Go.Proofs.YtijnmokpihhhcaaDoor
open Go
set_option linter.unusedVariables false
set_option linter.unusedSimpArgs false
set_option maxRecDepth 100000

/-- A node by another name. -/
def calledN (n : NodeD) (nm : List UInt8) : NodeD := ⟨{ n.i with name := nm }, n.b⟩

theorem storeOk_call {s : SD} {y : SX} (ok : StoreOk s y) {X1 X2 : List NN} {x : NN} {nm : List UInt8} (hs : y.X = X1 ++ x :: X2) (h1 : x.d.i.path ≠ 1)
    (hcl : (y.cl.map (·.1)).Nodup) (hw : Wf { s with L := updN s.L x.d.i.path fun _ => calledN x.d nm }) :
    StoreOk { s with L := updN s.L x.d.i.path fun _ => calledN x.d nm } { y with X := X1 ++ { x with d := calledN x.d nm } :: X2, cl := upd (x.d.i.parent, nm) (u64V x.d.i.path) (del (x.d.i.parent, x.d.i.name) y.cl) } := by
  have k : Keeps x.d (calledN x.d nm) := ⟨rfl, rfl, rfl⟩
  have hx : x ∈ y.X := by rw [hs]; simp
  have hd : x.d ∈ s.L := ok.perm.mem_iff.1 (List.mem_map.2 ⟨x, hx, rfl⟩)
  obtain ⟨p1, p2, p3⟩ := upd_parts (x' := { x with d := calledN x.d nm }) ok hs rfl k rfl (ok.bytes x hx)
  refine ⟨hw, p1, p2, p3, fun dir m => ?_⟩
  show lk (dir, m) (upd (x.d.i.parent, nm) (u64V x.d.i.path) (del (x.d.i.parent, x.d.i.name) y.cl)) = (childF (updN s.L x.d.i.path fun _ => calledN x.d nm) dir m).map u64V
  have hd' : calledN x.d nm ∈ updN s.L x.d.i.path fun _ => calledN x.d nm := List.mem_map.2 ⟨x.d, hd, by rw [if_pos rfl]⟩
  rw [lk_upd, lk_del hcl]
  by_cases e1 : (dir, m) = (x.d.i.parent, nm)
  · rw [if_pos e1]
    simp only [Prod.mk.injEq] at e1
    obtain ⟨rfl, rfl⟩ := e1
    have := child_of hw hd' h1
    change childF (updN s.L x.d.i.path fun _ => calledN x.d m) x.d.i.parent m = some x.d.i.path at this
    rw [this]; rfl
  rw [if_neg e1]
  by_cases e2 : (dir, m) = (x.d.i.parent, x.d.i.name)
  · rw [if_pos e2]
    simp only [Prod.mk.injEq] at e2
    obtain ⟨rfl, rfl⟩ := e2
    have : childF (updN s.L x.d.i.path fun _ => calledN x.d nm) x.d.i.parent x.d.i.name = none := by
      cases hc : childF (updN s.L x.d.i.path fun _ => calledN x.d nm) x.d.i.parent x.d.i.name with
      | none => rfl
      | some q =>
        obtain ⟨u, hu, rfl, hk, hn⟩ := child_some hc
        rcases upd_mem hu with ⟨rfl, _⟩ | ⟨hu1, hu2⟩
        · exact absurd (by show _ = (_, nm); rw [← hn]; rfl) e1
        · obtain ⟨k1, k2⟩ := (isKid_iff ok.wf hu1).1 hk
          exact absurd (ok.wf.one u hu1 x.d hd k2 h1 k1 hn) hu2
    rw [this]; rfl
  rw [if_neg e2, ok.child]
  congr 1
  unfold childF updN
  refine (find_map_congr fun u hu => ?_).symm
  rcases upd_at (d' := calledN x.d nm) ok.wf.rise hd rfl hu with ⟨rfl, e⟩ | e
  · rw [e]
    refine ⟨?_, rfl⟩
    have a1 : (isKid dir (calledN x.d nm) && (calledN x.d nm).i.name == m) = false := by
      cases hh : isKid dir (calledN x.d nm) && (calledN x.d nm).i.name == m
      · rfl
      · simp only [Bool.and_eq_true, beq_iff_eq, isKid] at hh
        exact absurd (by rw [← hh.1.1, ← hh.2]; rfl) e1
    have a2 : (isKid dir x.d && x.d.i.name == m) = false := by
      cases hh : isKid dir x.d && x.d.i.name == m
      · rfl
      · simp only [Bool.and_eq_true, beq_iff_eq, isKid] at hh
        exact absurd (by rw [← hh.1.1, ← hh.2]) e2
    rw [a1, a2]
  · rw [e]; exact ⟨rfl, rfl⟩
end Go.Proofs.YtijnmokpihhhcaaDoor

namespace Go.Proofs.YtijnmokpihhhcaaDoor
open Go
set_option linter.unusedVariables false
set_option linter.unusedSimpArgs false
set_option maxRecDepth 100000

section
variable {w0 w : World} {A : HP} {b B K : Nat} {s : SD} {y : SX} {X1 X2 : List NN} {x : NN} {t : Inf} {st rc : Int} {nm : List UInt8} {e : FA} {R : Ending → World → Prop}

section
attribute [local go_sem] F67.t10_eq
theorem call_t10 (ok : StoreOk s y) (hs : y.X = X1 ++ x :: X2) (h1 : x.d.i.path ≠ 1) (hw : Wf { s with L := updN s.L x.d.i.path fun _ => calledN x.d nm })
    (h : St w0 (Blk K (.cells [.int .u64 (x.d.i.parent : Int), .string (strOf nm)].toArray 121 (0, 0)) * (NodeB x.n 0 x.d.i x.vk x.vb * (RowU x.vk x.ks * (BlksP x.vb x.P * (StoreR b st rc s y (y.X.map kv) (X1 ++ X2) * A))))) w)
    (hd : e.ds = []) (e0 : e.ρ 0 = .pointer (some ⟨b, 0, none⟩)) (e1 : e.ρ 1 = .pointer (some ⟨x.n, 0, none⟩)) (e2 : e.ρ 2 = .string (strOf nm)) (e8 : e.ρ 8 = .int .u64 x.d.i.path) (e9 : e.ρ 9 = .pointer (some ⟨K, 0, none⟩)) :
    cwE Tryd.prog F67.t10 (fnP Tryd.prog #[.tmp 6, .tmp 7] (TurnR w0 A b st rc ({ s with L := updN s.L x.d.i.path fun _ => calledN x.d nm }, x.d.i.path, 0))) e w := by
  rw [F67.t10_eq]
  simp -dsimp -implicitDefEqProofs (disch := omega) only [go_sem, reqD_of, dec_t, dec_f, wrap_i64, wrap_u32, wrap_u64, wrap_u8, hd, e0, e1, e2, e8, e9, h.drew.cl b, h.drew.cl x.n]
  refine onV_of (v := encK (x.d.i.parent, x.d.i.name)) (by kernel_rfl) ?_
  simp -dsimp -implicitDefEqProofs (disch := omega) only [go_sem, reqD_of, dec_t, dec_f, wrap_i64, wrap_u32, wrap_u64, wrap_u8, hd, e0, e1, e2, e8, e9, h.drew.cl b, h.drew.cl x.n]
  have hcl := h.mapNodup y.C
  refine h.drew.delH (b := y.C) (x := ((x.d.i.parent, x.d.i.name) : KD)) Tryd.underlying94 lawK fun w2 h2 => ?_
  have hK := h2.drew.rowH K 2 rfl
  have hK2 := h2.rowH K 2 rfl
  simp -dsimp -implicitDefEqProofs (disch := omega) only [go_sem, reqD_of, dec_t, dec_f, wrap_i64, wrap_u32, wrap_u64, wrap_u8, hd, e0, e1, e2, e8, e9, h2.cl b, h2.cl x.n, hK2, h2.drew.cl b, hK]
  refine h2.drew.updH (b := y.C) (x := ((x.d.i.parent, nm) : KD)) Tryd.underlying94 lawK fun w3 h3 => ?_
  have hK3 := h3.rowH K 2 rfl
  simp -dsimp -implicitDefEqProofs (disch := omega) only [go_sem, reqD_of, dec_t, dec_f, wrap_i64, wrap_u32, wrap_u64, wrap_u8, hd, e0, e1, e2, e8, e9, h3.cl b, h3.cl x.n, hK3]
  refine h3.sto (b := x.n) (by simp) rfl fun w4 h4 => ?_
  simp only [List.setIfInBounds_toArray, List.set_cons_succ, List.set_cons_zero] at h4
  simp -dsimp -implicitDefEqProofs (disch := omega) only [go_sem, reqD_of, dec_t, dec_f, wrap_i64, wrap_u32, wrap_u64, wrap_u8, hd, e0, e1, e2, e8, e9]
  refine ⟨_, storeOk_call ok hs h1 hcl hw, ?_, rfl⟩
  obtain ⟨x', hx'⟩ : ∃ x' : NN, x' = { x with d := calledN x.d nm } := ⟨_, rfl⟩
  rw [← hx']
  obtain ⟨Mc, hMc⟩ : ∃ Mc, Mc = MapP encK y.C (upd ((x.d.i.parent, nm) : KD) (u64V x.d.i.path) (del ((x.d.i.parent, x.d.i.name) : KD) y.cl)) := ⟨_, rfl⟩
  have h5 : St w0 (Blk K (.cells [.int .u64 (x.d.i.parent : Int), .string (strOf nm)].toArray 121 (0, 0)) * (NodeB x.n 0 (calledN x.d nm).i x.vk x.vb * (RowU x.vk x.ks * (BlksP x.vb x.P * ((StoreB b st rc s y * (MapP encU y.N (y.X.map kv) * (Mc * (RowU y.ov (s.L.map (·.i.path)) * starL nodeP (X1 ++ X2))))) * A))))) w4 := by
    rw [hMc]; exact h4
  have q1 : nodeP x' = NodeB x.n 0 (calledN x.d nm).i x.vk x.vb * (RowU x.vk x.ks * BlksP x.vb x.P) := by rw [hx']; rfl
  have q2 : (X1 ++ x' :: X2).map kv = y.X.map kv := by rw [hs, hx']; simp [kv, calledN]
  have q3 : (updN s.L x.d.i.path fun _ => calledN x.d nm).map (·.i.path) = s.L.map (·.i.path) := upd_paths rfl
  show St w0 (StoreB b st rc s y * (MapP encU y.N ((X1 ++ x' :: X2).map kv) * (MapP encK y.C (upd ((x.d.i.parent, nm) : KD) (u64V x.d.i.path) (del ((x.d.i.parent, x.d.i.name) : KD) y.cl)) * (RowU y.ov ((updN s.L x.d.i.path fun _ => calledN x.d nm).map (·.i.path)) * starL nodeP (X1 ++ x' :: X2)))) * A) w4
  rw [← hMc, q2, q3, starL_split, q1]
  exact (h5.right).ac (by ac_rfl)

end

theorem call_any [Gives A Tabs] (ok : StoreOk s y) (hs : y.X = X1 ++ x :: X2) (hnm : nm.length ≤ 4294967296) (hw : Wf (callF s x.d nm).1) (h : St w0 (StoreQ b st rc s y * A) w) :
    Calls Tryd.prog 67 #[.pointer (some ⟨b, 0, none⟩), .pointer (some ⟨x.n, 0, none⟩), .string (strOf nm)] w (TurnR w0 A b st rc (callF s x.d nm)) := by
  have hx : x ∈ y.X := by rw [hs]; simp
  have hdm : x.d ∈ s.L := ok.perm.mem_iff.1 (List.mem_map.2 ⟨x, hx, rfl⟩)
  have h0 := h.ac (StoreQ.eq hs)
  refine F67.calls (by simp) ?_
  unfold F67.code
  simp -dsimp -implicitDefEqProofs (disch := omega) only [go_sem, reqD_of, dec_t, dec_f, wrap_i64, wrap_u32, wrap_u64, wrap_u8, h0.cl x.n]
  refine onV_of (v := encK (x.d.i.parent, nm)) (by kernel_rfl) ?_
  simp -dsimp -implicitDefEqProofs (disch := omega) only [go_sem, reqD_of, dec_t, dec_f, wrap_i64, wrap_u32, wrap_u64, wrap_u8]
  refine h0.new fun K w1 h1 => ?_
  simp -dsimp -implicitDefEqProofs (disch := omega) only [go_sem, reqD_of, dec_t, dec_f, wrap_i64, wrap_u32, wrap_u64, wrap_u8]
  simp only [encK]
  refine h1.stoAll (b := K) (cs := [.int .u64 (x.d.i.parent : Int), .string (strOf nm)]) rfl rfl (by intro v hv; simp at hv; rcases hv with rfl | rfl <;> rfl) fun w2 h2 => ?_
  have hK := h2.drew.rowH K 2 rfl
  simp -dsimp -implicitDefEqProofs (disch := omega) only [go_sem, reqD_of, dec_t, dec_f, wrap_i64, wrap_u32, wrap_u64, wrap_u8, h2.drew.cl b, hK]
  refine h2.drew.lkH (b := y.C) (x := ((x.d.i.parent, nm) : KD)) Tryd.underlying94 lawK (z := .int .u64 0) (by kernel_rfl) ?_
  rw [ok.child]
  have hl : lkV (.int .u64 0) true ((childF s.L x.d.i.parent nm).map u64V) = .tuple #[u64V ((childF s.L x.d.i.parent nm).getD 0), .bool (childF s.L x.d.i.parent nm).isSome] := lkV_get (f := u64V) (d := 0) _
  rw [hl]
  have h3 : St w0 (Blk K (.cells [.int .u64 (x.d.i.parent : Int), .string (strOf nm)].toArray 121 (0, 0)) * (NodeB x.n 0 x.d.i x.vk x.vb * (RowU x.vk x.ks * (BlksP x.vb x.P * (StoreR b st rc s y (y.X.map kv) (X1 ++ X2) * A))))) w2.drew := h2.drew
  have err : ∀ (w' : World) (k : Nat), St w0 (Blk K (.cells [.int .u64 (x.d.i.parent : Int), .string (strOf nm)].toArray 121 (0, 0)) * (NodeB x.n 0 x.d.i x.vk x.vb * (RowU x.vk x.ks * (BlksP x.vb x.P * (StoreR b st rc s y (y.X.map kv) (X1 ++ X2) * A))))) w' →
      callF s x.d nm = (s, 0, k) → TurnR w0 A b st rc (callF s x.d nm) (.returned (.tuple #[.int .u64 0, .int .i64 k])) w' := fun w' k h hm => by
    rw [hm]
    exact ⟨y, ok, h.right.ac (StoreQ.eq hs).symm, rfl⟩
  by_cases c1 : (x.d.i.path : Int) = 1
  · simp -dsimp -implicitDefEqProofs (disch := omega) only [go_sem, reqD_of, dec_t, dec_f, wrap_i64, wrap_u32, wrap_u64, wrap_u8, c1]
    exact err _ 81 h3 (by unfold callF; rw [if_pos (by omega)])
  have h1' : x.d.i.path ≠ 1 := by omega
  simp -dsimp -implicitDefEqProofs (disch := omega) only [go_sem, reqD_of, dec_t, dec_f, wrap_i64, wrap_u32, wrap_u64, wrap_u8, c1]
  refine (check_any h3 (Nat.le_trans hnm (by omega))).mono ?_
  rintro e w4 ⟨h4, rfl⟩
  cases g5 : okName nm
  case false =>
    simp only [Bool.false_eq_true, if_false]
    simp -dsimp -implicitDefEqProofs (disch := omega) only [go_sem, reqD_of, dec_t, dec_f, wrap_i64, wrap_u32, wrap_u64, wrap_u8]
    exact err _ 50 h4 (by unfold callF; rw [if_neg h1', if_pos (by simp [g5])])
  simp only [if_true]
  have good : ∀ (hq : childF s.L x.d.i.parent nm = none ∨ childF s.L x.d.i.parent nm = some x.d.i.path), callF s x.d nm = ({ s with L := updN s.L x.d.i.path fun _ => calledN x.d nm }, x.d.i.path, 0) := fun hq => by
    have e : (updN s.L x.d.i.path fun n => ⟨{ n.i with name := nm }, n.b⟩) = updN s.L x.d.i.path fun _ => calledN x.d nm := upd_fun ok.wf.rise hdm (fun n => ⟨{ n.i with name := nm }, n.b⟩)
    unfold callF
    rw [if_neg h1', if_neg (by simp [g5])]
    rcases hq with hq | hq
    · rw [hq]; simp only; rw [e]
    · rw [hq]; simp only [if_true]; rw [e]
  cases hc : childF s.L x.d.i.parent nm with
  | none =>
    rw [good (.inl hc)] at hw ⊢
    simp only [Option.isSome_none, Option.getD_none]
    simp -dsimp -implicitDefEqProofs (disch := omega) only [go_sem, reqD_of, dec_t, dec_f, wrap_i64, wrap_u32, wrap_u64, wrap_u8, c1]
    exact call_t10 ok hs h1' hw h4 (by simp -dsimp -implicitDefEqProofs only [go_sem]) (by simp -dsimp -implicitDefEqProofs only [go_sem]) (by simp -dsimp -implicitDefEqProofs only [go_sem]) (by simp -dsimp -implicitDefEqProofs only [go_sem]) (by simp -dsimp -implicitDefEqProofs only [go_sem]) (by simp -dsimp -implicitDefEqProofs only [go_sem])
  | some q =>
    simp only [Option.isSome_some, Option.getD_some]
    by_cases c2 : (q : Int) = (x.d.i.path : Int)
    · have : q = x.d.i.path := by omega
      subst this
      rw [good (.inr hc)] at hw ⊢
      simp -dsimp -implicitDefEqProofs (disch := omega) only [go_sem, reqD_of, dec_t, dec_f, wrap_i64, wrap_u32, wrap_u64, wrap_u8, c1]
      exact call_t10 ok hs h1' hw h4 (by simp -dsimp -implicitDefEqProofs only [go_sem]) (by simp -dsimp -implicitDefEqProofs only [go_sem]) (by simp -dsimp -implicitDefEqProofs only [go_sem]) (by simp -dsimp -implicitDefEqProofs only [go_sem]) (by simp -dsimp -implicitDefEqProofs only [go_sem]) (by simp -dsimp -implicitDefEqProofs only [go_sem])
    · simp -dsimp -implicitDefEqProofs (disch := omega) only [go_sem, reqD_of, dec_t, dec_f, wrap_i64, wrap_u32, wrap_u64, wrap_u8, c1, c2]
      exact err _ 82 h4 (by unfold callF; rw [if_neg h1', if_neg (by simp [g5]), hc]; simp only; rw [if_neg (by omega)])
end
end Go.Proofs.YtijnmokpihhhcaaDoor

namespace Go.Proofs.YtijnmokpihhhcaaDoor
open Go
set_option linter.unusedVariables false
set_option linter.unusedSimpArgs false
set_option maxRecDepth 100000

section
variable {w0 w : World} {A : HP} {b B K : Nat} {s : SD} {y : SX} {X1 X2 : List NN} {x : NN} {o : OpD} {vd : Value} {e : FA} {R : Ending → World → Prop}

theorem doF_turn {d : NodeD} (hk : 1 ≤ o.kind ∧ o.kind ≤ 3) (hf : findN s.L o.path = some d) : doF s o = if o.kind = 1 then makeF s d o.node else if o.kind = 2 then delF s d else callF s d o.name := by
  unfold doF
  rw [if_neg (by omega), hf]
  simp only
  split
  · rfl
  split
  · rfl
  · rw [if_pos (by omega)]

section
attribute [local go_sem] F40.t11_eq F40.t6_eq
theorem turn_any [Gives A Tabs] (hin : OpIn o) (hk : 1 ≤ o.kind ∧ o.kind ≤ 3) (hnext : s.next < 9223372036854775808) (h : St w0 (StoreP b 0 0 s * A) w) :
    Calls Tryd.prog 40 #[.pointer (some ⟨b, 0, none⟩), .agg (opL o vd).toArray] w fun e w' => St w0 (StoreP b 0 0 (doF s o).1 * A) w' ∧ e = .returned (.tuple #[.int .u64 (doF s o).2.1, .int .i64 (doF s o).2.2]) := by
  obtain ⟨y, ok, h⟩ := h.storeO
  have hwf := do_wf ok.wf hin.ok
  refine calls_of_cwM (types := Tryd.prog.types) follows Tryd.func40 F40.code rfl (by kernel_rfl) (by show 2 ≤ 48; decide) ?_
  show cwE _ _ (fnM _ #[.tmp 4, .tmp 5] _) _ _
  unfold F40.code
  simp -dsimp -implicitDefEqProofs (disch := omega) only [go_sem, reqD_of, dec_t, dec_f, wrap_i64, wrap_u32, wrap_u64, wrap_u8]
  refine h.new fun B w1 h1 => ?_
  have h1 : St w0 (StoreQ b 0 0 s y * (opB B o vd * A)) w1 := h1.sw2
  simp -dsimp -implicitDefEqProofs (disch := omega) only [go_sem, reqD_of, dec_t, dec_f, wrap_i64, wrap_u32, wrap_u64, wrap_u8]
  refine (wlockS h1).mono ?_
  rintro e w2 ⟨h2, rfl⟩
  simp -dsimp -implicitDefEqProofs (disch := omega) only [go_sem, reqD_of, dec_t, dec_f, wrap_i64, wrap_u32, wrap_u64, wrap_u8]
  refine deferF_of ?_
  simp -dsimp -implicitDefEqProofs (disch := omega) only [go_sem, reqD_of, dec_t, dec_f, wrap_i64, wrap_u32, wrap_u64, wrap_u8, h2.drew.cl b, h2.drew.cl B]
  refine h2.drew.lkH (b := y.N) (x := (o.path : Int)) Tryd.underlying93 lawU zero_ptr ?_
  have fin : ∀ (y' : SX) (r : SD × Nat × Nat) (w' : World) (e : FA), StoreOk r.1 y' → St w0 (StoreQ b 1 (-1073741824) r.1 y' * (opB B o vd * A)) w' → doF s o = r → e.ρ 4 = .int .u64 r.2.1 → e.ρ 5 = .int .i64 r.2.2 →
      leaveD Tryd.prog [{ target := .fn (.func 53) #[], args := #[.pointer (some ⟨b, 0, none⟩)] }] .returning w' (endM Tryd.prog #[.tmp 4, .tmp 5] e fun e w' => St w0 (StoreP b 0 0 (doF s o).1 * A) w' ∧ e = .returned (.tuple #[.int .u64 (doF s o).2.1, .int .i64 (doF s o).2.2])) := fun y' r w' e ok' h' hr e4 e5 => by
    refine wunlockS h' fun w7 h7 => ?_
    refine endT2 ?_
    rw [e4, e5, hr]
    exact ⟨h7.drop2.ent (Ent.sep (StoreP.shut ok') (Ent.rfl' A)), rfl⟩
  cases hf : findN s.L o.path with
  | none =>
    rw [ok.none hf]
    have hr : doF s o = (s, 0, 80) := by unfold doF; rw [if_neg (by omega), hf]
    simp -dsimp -implicitDefEqProofs (disch := omega) only [go_sem, reqD_of, dec_t, dec_f, wrap_i64, wrap_u32, wrap_u64, wrap_u8, lkV]
    exact fin y (s, 0, 80) _ _ ok h2.drew hr (by simp -dsimp -implicitDefEqProofs only [go_sem]) (by simp -dsimp -implicitDefEqProofs only [go_sem])
  | some d =>
    obtain ⟨X1, x, X2, hs, rfl, hx, hl⟩ := ok.some hf
    rw [hl]
    have hr := doF_turn (s := s) (o := o) hk hf
    have h3 := h2.drew
    rcases Nat.lt_or_ge o.kind 2 with hk1 | hk1
    · have k1 : (o.kind : Int) = 1 := by omega
      rw [if_pos (by omega)] at hr
      have hrow := h3.rowAtH B 4 13 (by simp)
      simp only [List.drop_succ_cons, List.drop_zero, List.take_succ_cons, List.take_zero] at hrow
      simp -dsimp -implicitDefEqProofs (disch := omega) only [go_sem, reqD_of, dec_t, dec_f, wrap_i64, wrap_u32, wrap_u64, wrap_u8, lkV, h3.cl B, k1, hrow]
      rw [hr] at hwf
      refine (makes_any (t := o.node) ok hs ⟨hin.ok.mode, hin.nname, hin.uid, hin.gid, hin.muid⟩ hnext hwf h3).mono ?_
      rintro e w5 ⟨y', ok', h5, rfl⟩
      simp -dsimp -implicitDefEqProofs (disch := omega) only [go_sem, reqD_of, dec_t, dec_f, wrap_i64, wrap_u32, wrap_u64, wrap_u8]
      exact fin y' _ _ _ ok' h5 hr (by simp -dsimp -implicitDefEqProofs only [go_sem]) (by simp -dsimp -implicitDefEqProofs only [go_sem])
    have k1 : ¬ (o.kind : Int) = 1 := by omega
    rw [if_neg (by omega)] at hr
    rcases Nat.lt_or_ge o.kind 3 with hk2 | hk2
    · have k2 : (o.kind : Int) = 2 := by omega
      rw [if_pos (by omega)] at hr
      simp -dsimp -implicitDefEqProofs (disch := omega) only [go_sem, reqD_of, dec_t, dec_f, wrap_i64, wrap_u32, wrap_u64, wrap_u8, lkV, h3.cl B, k1, k2]
      rw [hr] at hwf
      refine (drop_any ok hs hwf h3).mono ?_
      rintro e w5 ⟨y', ok', h5, rfl⟩
      simp -dsimp -implicitDefEqProofs (disch := omega) only [go_sem, reqD_of, dec_t, dec_f, wrap_i64, wrap_u32, wrap_u64, wrap_u8]
      exact fin y' _ _ _ ok' h5 hr (by simp -dsimp -implicitDefEqProofs only [go_sem]) (by simp -dsimp -implicitDefEqProofs only [go_sem])
    have k2 : ¬ (o.kind : Int) = 2 := by omega
    rw [if_neg (by omega)] at hr
    simp -dsimp -implicitDefEqProofs (disch := omega) only [go_sem, reqD_of, dec_t, dec_f, wrap_i64, wrap_u32, wrap_u64, wrap_u8, lkV, h3.cl B, k1, k2]
    rw [hr] at hwf
    refine (call_any ok hs hin.name hwf h3).mono ?_
    rintro e w5 ⟨y', ok', h5, rfl⟩
    simp -dsimp -implicitDefEqProofs (disch := omega) only [go_sem, reqD_of, dec_t, dec_f, wrap_i64, wrap_u32, wrap_u64, wrap_u8]
    exact fin y' _ _ _ ok' h5 hr (by simp -dsimp -implicitDefEqProofs only [go_sem]) (by simp -dsimp -implicitDefEqProofs only [go_sem])

end
section
attribute [local go_sem] F20.t2_eq F20.t6_eq F20.t30_eq F20.t28_eq F20.t11_eq
theorem do_t11 [Gives A Tabs] [Gives A (RdB vd o.data)] (hin : OpIn o) (hk : 4 ≤ o.kind ∧ o.kind ≤ 7) (h : St w0 (StoreP b 0 0 s * (opB B o vd * A)) w)
    (hd : e.ds = []) (e0 : e.ρ 0 = .pointer (some ⟨b, 0, none⟩)) (e3 : e.ρ 3 = .pointer (some ⟨B, 0, none⟩))
    (hR : ∀ w', St w0 (StoreP b 0 0 (doF s o).1 * A) w' → R (.returned (.tuple #[.int .u64 (doF s o).2.1, .int .i64 (doF s o).2.2])) w') :
    cwE Tryd.prog F20.t11 (fnM Tryd.prog #[.tmp 4, .tmp 5] R) e w := by
  obtain ⟨y, ok, h⟩ := h.storeO
  rw [F20.t11_eq]
  simp -dsimp -implicitDefEqProofs (disch := omega) only [go_sem, reqD_of, dec_t, dec_f, wrap_i64, wrap_u32, wrap_u64, wrap_u8, hd, e0, e3]
  refine (rlockS h).mono ?_
  rintro e' w1 ⟨h1, rfl⟩
  simp -dsimp -implicitDefEqProofs (disch := omega) only [go_sem, reqD_of, dec_t, dec_f, wrap_i64, wrap_u32, wrap_u64, wrap_u8, hd, e0, e3]
  refine deferF_of ?_
  simp -dsimp -implicitDefEqProofs (disch := omega) only [go_sem, reqD_of, dec_t, dec_f, wrap_i64, wrap_u32, wrap_u64, wrap_u8, hd, e0, e3, h1.drew.cl b, h1.drew.cl B]
  refine h1.drew.lkH (b := y.N) (x := (o.path : Int)) Tryd.underlying93 lawU zero_ptr ?_
  cases hf : findN s.L o.path with
  | none =>
    rw [ok.none hf]
    have hr : doF s o = (s, 0, 80) := by unfold doF; rw [if_neg (by omega), hf]
    rw [hr] at hR
    simp -dsimp -implicitDefEqProofs (disch := omega) only [go_sem, reqD_of, dec_t, dec_f, wrap_i64, wrap_u32, wrap_u64, wrap_u8, lkV, hd, e0, e3]
    refine runlockS h1.drew fun w2 h2 => ?_
    refine endT2 ?_
    have := hR w2 (h2.drop2.ent (Ent.sep (StoreP.shut ok) (Ent.rfl' A)))
    simp -dsimp -implicitDefEqProofs only [go_sem]
    exact this
  | some d =>
    obtain ⟨X1, x, X2, hs, rfl, hx, hl⟩ := ok.some hf
    rw [hl]
    simp -dsimp -implicitDefEqProofs (disch := omega) only [go_sem, reqD_of, dec_t, dec_f, wrap_i64, wrap_u32, wrap_u64, wrap_u8, lkV, hd, e0, e3]
    exact do_t16 (vd := vd) (B := B) hin hk ok hs hf (h1.drew.ac (StoreQ.eq hs)) (by simp -dsimp -implicitDefEqProofs only [go_sem, hd, e0]) (by simp -dsimp -implicitDefEqProofs only [go_sem, e3]) (by simp -dsimp -implicitDefEqProofs only [go_sem]) hR

end
section
attribute [local go_sem] F20.t2_eq F20.t6_eq F20.t30_eq F20.t28_eq F20.t16_eq
theorem do_any [Gives A Tabs] [Gives A (RdB vd o.data)] (hin : OpIn o) (hkind : o.kind < 256) (hnext : s.next < 9223372036854775808) (h : St w0 (StoreP b 0 0 s * A) w) :
    Calls Tryd.prog 20 #[.pointer (some ⟨b, 0, none⟩), .agg (opL o vd).toArray] w fun e w' => St w0 (StoreP b 0 0 (doF s o).1 * A) w' ∧ e = .returned (.tuple #[.int .u64 (doF s o).2.1, .int .i64 (doF s o).2.2]) := by
  refine calls_of_cwM (types := Tryd.prog.types) follows Tryd.func20 F20.code rfl (by kernel_rfl) (by show 2 ≤ 82; decide) ?_
  show cwE _ _ (fnM _ #[.tmp 4, .tmp 5] _) _ _
  unfold F20.code
  simp -dsimp -implicitDefEqProofs (disch := omega) only [go_sem, reqD_of, dec_t, dec_f, wrap_i64, wrap_u32, wrap_u64, wrap_u8]
  refine h.new fun B w1 h1 => ?_
  have h1 : St w0 (StoreP b 0 0 s * (opB B o vd * A)) w1 := h1.sw2
  have hrow := h1.rowH B 20 rfl
  by_cases hk : 1 ≤ o.kind ∧ o.kind ≤ 3
  · have turn : ∀ (R : Ending → World → Prop), (∀ w', St w0 (StoreP b 0 0 (doF s o).1 * A) w' → R (.returned (.tuple #[.int .u64 (doF s o).2.1, .int .i64 (doF s o).2.2])) w') → Calls Tryd.prog 40 #[.pointer (some ⟨b, 0, none⟩), .agg (opL o vd).toArray] w1 R := fun R hR => by
      refine (turn_any (vd := vd) hin hk hnext h1).mono ?_
      rintro e w2 ⟨h2, rfl⟩
      exact hR _ h2.drop2
    rcases (by omega : o.kind = 1 ∨ o.kind = 2 ∨ o.kind = 3) with k | k | k
    · have k1 : (o.kind : Int) = 1 := by omega
      simp -dsimp -implicitDefEqProofs (disch := omega) only [go_sem, reqD_of, dec_t, dec_f, wrap_i64, wrap_u32, wrap_u64, wrap_u8, h1.cl B, k1, hrow]
      refine (turn_any (vd := vd) hin hk hnext h1).mono ?_
      rintro e w2 ⟨h2, rfl⟩
      simp -dsimp -implicitDefEqProofs (disch := omega) only [go_sem, reqD_of, dec_t, dec_f, wrap_i64, wrap_u32, wrap_u64, wrap_u8]
      refine endT2 ?_
      simp -dsimp -implicitDefEqProofs only [go_sem]
      exact h2.drop2
    · have k1 : ¬ (o.kind : Int) = 1 := by omega
      have k2 : (o.kind : Int) = 2 := by omega
      simp -dsimp -implicitDefEqProofs (disch := omega) only [go_sem, reqD_of, dec_t, dec_f, wrap_i64, wrap_u32, wrap_u64, wrap_u8, h1.cl B, k1, k2, hrow]
      refine (turn_any (vd := vd) hin hk hnext h1).mono ?_
      rintro e w2 ⟨h2, rfl⟩
      simp -dsimp -implicitDefEqProofs (disch := omega) only [go_sem, reqD_of, dec_t, dec_f, wrap_i64, wrap_u32, wrap_u64, wrap_u8]
      refine endT2 ?_
      simp -dsimp -implicitDefEqProofs only [go_sem]
      exact h2.drop2
    · have k1 : ¬ (o.kind : Int) = 1 := by omega
      have k2 : ¬ (o.kind : Int) = 2 := by omega
      have k3 : (o.kind : Int) = 3 := by omega
      simp -dsimp -implicitDefEqProofs (disch := omega) only [go_sem, reqD_of, dec_t, dec_f, wrap_i64, wrap_u32, wrap_u64, wrap_u8, h1.cl B, k1, k2, k3, hrow]
      refine (turn_any (vd := vd) hin hk hnext h1).mono ?_
      rintro e w2 ⟨h2, rfl⟩
      simp -dsimp -implicitDefEqProofs (disch := omega) only [go_sem, reqD_of, dec_t, dec_f, wrap_i64, wrap_u32, wrap_u64, wrap_u8]
      refine endT2 ?_
      simp -dsimp -implicitDefEqProofs only [go_sem]
      exact h2.drop2
  have k1 : ¬ (o.kind : Int) = 1 := by omega
  have k2 : ¬ (o.kind : Int) = 2 := by omega
  have k3 : ¬ (o.kind : Int) = 3 := by omega
  by_cases hk4 : 4 ≤ o.kind ∧ o.kind ≤ 7
  case neg =>
    have hr : doF s o = (s, 0, 1) := by unfold doF; rw [if_pos (by omega)]
    have k4 : ¬ (o.kind : Int) = 4 := by omega
    have k5 : ¬ (o.kind : Int) = 5 := by omega
    have k6 : ¬ (o.kind : Int) = 6 := by omega
    have k7 : ¬ (o.kind : Int) = 7 := by omega
    rw [hr]
    simp -dsimp -implicitDefEqProofs (disch := omega) only [go_sem, reqD_of, dec_t, dec_f, wrap_i64, wrap_u32, wrap_u64, wrap_u8, h1.cl B, k1, k2, k3, k4, k5, k6, k7]
    refine endT2 ?_
    simp -dsimp -implicitDefEqProofs only [go_sem]
    exact h1.drop2
  have go : ∀ (e : FA), e.ds = [] → e.ρ 0 = .pointer (some ⟨b, 0, none⟩) → e.ρ 3 = .pointer (some ⟨B, 0, none⟩) → cwE Tryd.prog F20.t11 (fnM Tryd.prog #[.tmp 4, .tmp 5] fun e w' => St w0 (StoreP b 0 0 (doF s o).1 * A) w' ∧ e = .returned (.tuple #[.int .u64 (doF s o).2.1, .int .i64 (doF s o).2.2])) e w1 := fun e hd e0 e3 =>
    do_t11 hin hk4 h1 hd e0 e3 fun w' h' => ⟨h', rfl⟩
  rcases (by omega : o.kind = 4 ∨ o.kind = 5 ∨ o.kind = 6 ∨ o.kind = 7) with k | k | k | k
  · have k4 : (o.kind : Int) = 4 := by omega
    simp -dsimp -implicitDefEqProofs (disch := omega) only [go_sem, reqD_of, dec_t, dec_f, wrap_i64, wrap_u32, wrap_u64, wrap_u8, h1.cl B, k1, k2, k3, k4]
    exact go _ (by simp -dsimp -implicitDefEqProofs only [go_sem]) (by simp -dsimp -implicitDefEqProofs only [go_sem]) (by simp -dsimp -implicitDefEqProofs only [go_sem])
  · have k4 : ¬ (o.kind : Int) = 4 := by omega
    have k5 : (o.kind : Int) = 5 := by omega
    simp -dsimp -implicitDefEqProofs (disch := omega) only [go_sem, reqD_of, dec_t, dec_f, wrap_i64, wrap_u32, wrap_u64, wrap_u8, h1.cl B, k1, k2, k3, k4, k5]
    exact go _ (by simp -dsimp -implicitDefEqProofs only [go_sem]) (by simp -dsimp -implicitDefEqProofs only [go_sem]) (by simp -dsimp -implicitDefEqProofs only [go_sem])
  · have k4 : ¬ (o.kind : Int) = 4 := by omega
    have k5 : ¬ (o.kind : Int) = 5 := by omega
    have k6 : (o.kind : Int) = 6 := by omega
    simp -dsimp -implicitDefEqProofs (disch := omega) only [go_sem, reqD_of, dec_t, dec_f, wrap_i64, wrap_u32, wrap_u64, wrap_u8, h1.cl B, k1, k2, k3, k4, k5, k6]
    exact go _ (by simp -dsimp -implicitDefEqProofs only [go_sem]) (by simp -dsimp -implicitDefEqProofs only [go_sem]) (by simp -dsimp -implicitDefEqProofs only [go_sem])
  · have k4 : ¬ (o.kind : Int) = 4 := by omega
    have k5 : ¬ (o.kind : Int) = 5 := by omega
    have k6 : ¬ (o.kind : Int) = 6 := by omega
    have k7 : (o.kind : Int) = 7 := by omega
    simp -dsimp -implicitDefEqProofs (disch := omega) only [go_sem, reqD_of, dec_t, dec_f, wrap_i64, wrap_u32, wrap_u64, wrap_u8, h1.cl B, k1, k2, k3, k4, k5, k6, k7]
    exact go _ (by simp -dsimp -implicitDefEqProofs only [go_sem]) (by simp -dsimp -implicitDefEqProofs only [go_sem]) (by simp -dsimp -implicitDefEqProofs only [go_sem])
end
end
end Go.Proofs.YtijnmokpihhhcaaDoor

namespace Go.Proofs.YtijnmokpihhhcaaDoor
open Go
set_option linter.unusedVariables false
set_option linter.unusedSimpArgs false
set_option maxRecDepth 100000

/-- A configuration. -/
structure CfgD where
  users : List UInt8
  owner : List UInt8
  group : List UInt8
  perm : Nat
  v4 : Int
  v5 : Int
  v6 : Int
  v7 : Int
  nodes : Int
  v9 : Int
abbrev cfgL (c : CfgD) : List Value := [.string (strOf c.users), .string (strOf c.owner), .string (strOf c.group), .int .u32 c.perm, .int .u64 c.v4, .int .u32 c.v5, .int .i64 c.v6, .int .i64 c.v7, .int .i64 c.nodes, .int .i64 c.v9]
def rootD (c : CfgD) : NodeD := ⟨⟨1, 1, [47], 2147483648 ||| c.perm, c.owner, c.group, c.owner, 0, 0, 0, 0, 0, 0⟩, []⟩
def newF (c : CfgD) : Except Nat SD :=
  if c.nodes < 1 ∨ 4096 < c.nodes ∨ ¬ c.perm &&& 4294966784 = 0 then .error 1
  else if c.owner = [] ∨ c.group = [] ∨ userF c.owner = false ∨ userF c.group = false then .error 1
  else .ok ⟨c.nodes.toNat, 2, [rootD c]⟩
structure CfgIn (c : CfgD) : Prop where
  perm : c.perm < 4294967296
  n0 : -9223372036854775808 ≤ c.nodes
  n1 : c.nodes ≤ 9223372036854775807
  owner : c.owner.length ≤ 4294967296
  group : c.group.length ≤ 4294967296

theorem bPerm {P : Program} {T : TypeId} {m : Nat} (hm : m < 4294967296) : binV P .andNot T (.int .u32 m) (.int .u32 511) = some (.int .u32 ((m &&& 4294966784 : Nat) : Int)) := by
  rw [bNot32 hm (by omega)]
  rfl
theorem bDirO {P : Program} {T : TypeId} {m : Nat} (hm : m < 4294967296) : binV P .or T (.int .u32 2147483648) (.int .u32 m) = some (.int .u32 ((2147483648 ||| m : Nat) : Int)) := by
  rw [bOr32 hm (by omega)]
  rfl

theorem root_wf {c : CfgD} (hc : CfgIn c) (h1 : ¬ (c.nodes < 1 ∨ 4096 < c.nodes)) (g1 : userF c.owner = true) (g2 : userF c.group = true) : Wf ⟨c.nodes.toNat, 2, [rootD c]⟩ := by
  have hm : 2147483648 ||| c.perm < 4294967296 := Nat.or_lt_two_pow (n := 32) (by decide) hc.perm
  have hd : dirF (2147483648 ||| c.perm) = true := by unfold dirF; exact decide_eq_true Nat.left_le_or
  have u1 := userF_len g1
  have u2 := userF_len g2
  refine ⟨?_, by simp, ?_, ⟨rootD c, rfl, rfl, hd⟩, ?_, ?_, by simp; omega, by simp; omega⟩
  · intro n hn
    simp only [List.mem_cons, List.not_mem_nil, or_false] at hn
    subst hn
    exact ⟨rfl, by simp [rootD], rfl, hm, by simp [rootD], by simp [rootD], by simp [rootD], by simp [rootD], by simp [rootD], fun _ => rfl, by simp [rootD], u1, u2, u1⟩
  · intro n hn
    simp only [List.mem_cons, List.not_mem_nil, or_false] at hn
    subst hn
    exact ⟨by simp [rootD], by simp [rootD]⟩
  · intro n hn h
    simp only [List.mem_cons, List.not_mem_nil, or_false] at hn
    subst hn
    exact absurd rfl h
  · intro a ha b hb h
    simp only [List.mem_cons, List.not_mem_nil, or_false] at ha
    subst ha
    exact absurd rfl h

section
variable {w0 w : World} {A : HP} {c : CfgD}
section
attribute [local go_sem] F13.t5_eq F13.t3_eq
theorem new_any [Gives A Tabs] (hc : CfgIn c) (h : St w0 A w) :
    Calls Tryd.prog 13 #[.agg (cfgL c).toArray] w fun e w' => match newF c with
      | .error k => St w0 A w' ∧ e = .returned (.tuple #[.pointer none, .int .i64 k])
      | .ok s => ∃ b, St w0 (StoreP b 0 0 s * A) w' ∧ e = .returned (.tuple #[.pointer (some ⟨b, 0, none⟩), .int .i64 0]) := by
  refine F13.calls (by simp) ?_
  unfold F13.code
  simp -dsimp -implicitDefEqProofs (disch := omega) only [go_sem, reqD_of, dec_t, dec_f, wrap_i64, wrap_u32, wrap_u64, wrap_u8]
  refine h.new fun B w1 h1 => ?_
  have hp := bPerm (P := Tryd.prog) (T := 29) hc.perm
  by_cases c1 : c.nodes < 1
  · have hr : newF c = .error 1 := by unfold newF; rw [if_pos (.inl c1)]
    rw [hr]
    simp -dsimp -implicitDefEqProofs (disch := omega) only [go_sem, reqD_of, dec_t, dec_f, wrap_i64, wrap_u32, wrap_u64, wrap_u8, h1.cl B, c1, hp]
    exact h1.right
  by_cases c2 : 4096 < c.nodes
  · have hr : newF c = .error 1 := by unfold newF; rw [if_pos (.inr (.inl c2))]
    rw [hr]
    simp -dsimp -implicitDefEqProofs (disch := omega) only [go_sem, reqD_of, dec_t, dec_f, wrap_i64, wrap_u32, wrap_u64, wrap_u8, h1.cl B, c1, c2, hp]
    exact h1.right
  by_cases c3 : ((c.perm &&& 4294966784 : Nat) : Int) = 0
  case neg =>
    have hr : newF c = .error 1 := by unfold newF; rw [if_pos (.inr (.inr (by omega)))]
    rw [hr]
    simp -dsimp -implicitDefEqProofs (disch := omega) only [go_sem, reqD_of, dec_t, dec_f, wrap_i64, wrap_u32, wrap_u64, wrap_u8, h1.cl B, c1, c2, hp, c3]
    exact h1.right
  have hn1 : ¬ (c.nodes < 1 ∨ 4096 < c.nodes ∨ ¬ c.perm &&& 4294966784 = 0) := by omega
  by_cases c4 : c.owner = []
  · have hr : newF c = .error 1 := by unfold newF; rw [if_neg hn1, if_pos (.inl c4)]
    rw [hr]
    have e4 : decide (c.owner = []) = true := decide_eq_true c4
    simp -dsimp -implicitDefEqProofs (disch := omega) only [go_sem, reqD_of, dec_t, dec_f, wrap_i64, wrap_u32, wrap_u64, wrap_u8, h1.cl B, c1, c2, hp, c3, e4]
    exact h1.right
  by_cases c5 : c.group = []
  · have hr : newF c = .error 1 := by unfold newF; rw [if_neg hn1, if_pos (.inr (.inl c5))]
    rw [hr]
    have e5 : decide (c.group = []) = true := decide_eq_true c5
    simp -dsimp -implicitDefEqProofs (disch := omega) only [go_sem, reqD_of, dec_t, dec_f, wrap_i64, wrap_u32, wrap_u64, wrap_u8, h1.cl B, c1, c2, hp, c3, c4, e5]
    exact h1.right
  simp -dsimp -implicitDefEqProofs (disch := omega) only [go_sem, reqD_of, dec_t, dec_f, wrap_i64, wrap_u32, wrap_u64, wrap_u8, h1.cl B, c1, c2, hp, c3, c4, c5]
  refine (mayUser_any h1 (Nat.le_trans hc.owner (by omega))).mono ?_
  rintro e w2 ⟨h2, rfl⟩
  cases g1 : userF c.owner
  case false =>
    have hr : newF c = .error 1 := by unfold newF; rw [if_neg hn1, if_pos (.inr (.inr (.inl g1)))]
    rw [hr]
    simp -dsimp -implicitDefEqProofs (disch := omega) only [go_sem, reqD_of, dec_t, dec_f, wrap_i64, wrap_u32, wrap_u64, wrap_u8]
    exact h2.right
  simp -dsimp -implicitDefEqProofs (disch := omega) only [go_sem, reqD_of, dec_t, dec_f, wrap_i64, wrap_u32, wrap_u64, wrap_u8, h2.cl B]
  refine (mayUser_any h2 (Nat.le_trans hc.group (by omega))).mono ?_
  rintro e w3 ⟨h3, rfl⟩
  cases g2 : userF c.group
  case false =>
    have hr : newF c = .error 1 := by unfold newF; rw [if_neg hn1, if_pos (.inr (.inr (.inr g2)))]
    rw [hr]
    simp -dsimp -implicitDefEqProofs (disch := omega) only [go_sem, reqD_of, dec_t, dec_f, wrap_i64, wrap_u32, wrap_u64, wrap_u8]
    exact h3.right
  have hr : newF c = .ok ⟨c.nodes.toNat, 2, [rootD c]⟩ := by
    unfold newF
    rw [if_neg hn1, if_neg (by simp [c4, c5, g1, g2])]
  rw [hr]
  have ho := bDirO (P := Tryd.prog) (T := 29) hc.perm
  simp -dsimp -implicitDefEqProofs (disch := omega) only [go_sem, reqD_of, dec_t, dec_f, wrap_i64, wrap_u32, wrap_u64, wrap_u8, h3.cl B, ho]
  refine onV_of (v := .agg (infL (rootD c).i).toArray) (by kernel_rfl) ?_
  simp -dsimp -implicitDefEqProofs (disch := omega) only [go_sem, reqD_of, dec_t, dec_f, wrap_i64, wrap_u32, wrap_u64, wrap_u8]
  refine onV_of (v := .agg (nodeC 0 (rootD c).i (.slice none 0 0) (.slice none 0 0))) (by kernel_rfl) ?_
  simp -dsimp -implicitDefEqProofs (disch := omega) only [go_sem, reqD_of, dec_t, dec_f, wrap_i64, wrap_u32, wrap_u64, wrap_u8]
  refine h3.new fun M w4 h4 => ?_
  simp -dsimp -implicitDefEqProofs (disch := omega) only [go_sem, reqD_of, dec_t, dec_f, wrap_i64, wrap_u32, wrap_u64, wrap_u8, h4.cl B]
  refine h4.makeMap (enc := encU) fun N w5 h5 => ?_
  simp -dsimp -implicitDefEqProofs (disch := omega) only [go_sem, reqD_of, dec_t, dec_f, wrap_i64, wrap_u32, wrap_u64, wrap_u8, h5.cl B]
  refine h5.updH (b := N) (x := (1 : Int)) Tryd.underlying93 lawU fun w6 h6 => ?_
  simp -dsimp -implicitDefEqProofs (disch := omega) only [go_sem, reqD_of, dec_t, dec_f, wrap_i64, wrap_u32, wrap_u64, wrap_u8, h6.cl B]
  refine h6.lit (t := 63) (n := 1) (cells := [u64V 1]) rowTy_u64 rfl (by decide) (by decide) fun v7 w7 h7 => ?_
  obtain ⟨a7, c7, rfl, _⟩ := h7.rowForm v7
  simp -dsimp -implicitDefEqProofs (disch := omega) only [go_sem, reqD_of, dec_t, dec_f, wrap_i64, wrap_u32, wrap_u64, wrap_u8, h7.cl B]
  refine h7.makeMap (enc := encK) fun C w8 h8 => ?_
  simp -dsimp -implicitDefEqProofs (disch := omega) only [go_sem, reqD_of, dec_t, dec_f, wrap_i64, wrap_u32, wrap_u64, wrap_u8, h8.cl B]
  refine onV_of (v := .agg (storeC 0 0 c.nodes.toNat 2 (.map (some N)) (.slice a7 1 c7) (.map (some C)))) ?_ ?_
  · have hn' : Value.int .i64 c.nodes = .int .i64 ((c.nodes.toNat : Nat) : Int) := by
      congr 1
      omega
    rw [hn']
    rfl
  simp -dsimp -implicitDefEqProofs (disch := omega) only [go_sem, reqD_of, dec_t, dec_f, wrap_i64, wrap_u32, wrap_u64, wrap_u8]
  refine h8.new fun b w9 h9 => ?_
  simp -dsimp -implicitDefEqProofs (disch := omega) only [go_sem, reqD_of, dec_t, dec_f, wrap_i64, wrap_u32, wrap_u64, wrap_u8]
  have hw := root_wf hc (by omega) g1 g2
  have ok : StoreOk ⟨c.nodes.toNat, 2, [rootD c]⟩ ⟨N, C, .slice a7 1 c7, [⟨rootD c, M, .slice none 0 0, .slice none 0 0, [], []⟩], []⟩ := by
    refine ⟨hw, List.Perm.refl _, fun z hz => ?_, fun z hz => ?_, fun dir nm => ?_⟩
    · simp only [List.mem_cons, List.not_mem_nil, or_false] at hz
      subst hz; rfl
    · simp only [List.mem_cons, List.not_mem_nil, or_false] at hz
      subst hz
      exact ⟨by simp, by simp, fun k _ => by simp [byteAt, rootD]⟩
    · have : isKid dir (rootD c) = false := by simp [isKid, rootD]
      simp [lk, childF, List.find?, this]
  have h10 := (h9.nilR 30 1).nilR 122 1
  have h11 := h10.ent (Ent.embL _)
  have h12 := h11.ent (Ent.embL _)
  have h13 : St w0 (Blk B (.cells (cfgL c).toArray 32 (0, 0)) * (Blk b (.cells (storeC 0 0 c.nodes.toNat 2 (.map (some N)) (.slice a7 1 c7) (.map (some C))) 101 (0, 0)) * (MapP encU N (upd (1 : Int) (.pointer (some ⟨M, 0, none⟩)) []) * (MapP encK C [] * (RowO 30 1 (.slice a7 1 c7) 1 [u64V 1] *
      (Blk M (.cells (nodeC 0 (rootD c).i (.slice none 0 0) (.slice none 0 0)) 92 (0, 0)) * (RowO 30 1 (.slice none 0 0) 0 [] * (RowO 122 1 (.slice none 0 0) 0 [] * EmpH)) * EmpH)))) * A)) w9 := h12.ac (by ac_rfl)
  have h14 : St w0 (StoreQ b 0 0 ⟨c.nodes.toNat, 2, [rootD c]⟩ ⟨N, C, .slice a7 1 c7, [⟨rootD c, M, .slice none 0 0, .slice none 0 0, [], []⟩], []⟩ * A) w9 := h13.right
  exact ⟨b, h14.ent (Ent.sep (StoreP.shut ok) (Ent.rfl' A)), rfl⟩
end
end
end Go.Proofs.YtijnmokpihhhcaaDoor

namespace Go.Proofs.YtijnmokpihhhcaaDoor
open Go
set_option linter.unusedVariables false
set_option linter.unusedSimpArgs false
set_option maxRecDepth 100000

abbrev ann : List UInt8 := [97, 110, 110]
abbrev staff : List UInt8 := [115, 116, 97, 102, 102]
def storeCfg (most : Int) : CfgD := ⟨[], ann, staff, 493, 0, 0, 0, 0, most, 0⟩
/-- A store of so many nodes at most. -/
def storeF (n : Nat) : SD := ⟨n, 2, [rootD (storeCfg n)]⟩
theorem storeCfg_in {most : Int} (h : -9223372036854775808 ≤ most ∧ most ≤ 9223372036854775807) : CfgIn (storeCfg most) := ⟨by show (493 : Nat) < _; decide, h.1, h.2, by show ann.length ≤ _; decide, by show staff.length ≤ _; decide⟩
theorem newF_store {n : Nat} (h : 1 ≤ n ∧ n ≤ 4096) : newF (storeCfg n) = .ok (storeF n) := by
  unfold newF
  have h0 : 493 &&& 4294966784 = 0 := by decide
  have g1 : userF ann = true := by decide
  have g2 : userF staff = true := by decide
  have e1 : ¬ ((storeCfg n).nodes < 1 ∨ 4096 < (storeCfg n).nodes ∨ ¬ (storeCfg n).perm &&& 4294966784 = 0) := by
    show ¬ ((n : Int) < 1 ∨ 4096 < (n : Int) ∨ ¬ 493 &&& 4294966784 = 0)
    rw [h0]; omega
  have e2 : ¬ ((storeCfg n).owner = [] ∨ (storeCfg n).group = [] ∨ userF (storeCfg n).owner = false ∨ userF (storeCfg n).group = false) := by
    show ¬ (ann = [] ∨ staff = [] ∨ userF ann = false ∨ userF staff = false)
    rw [g1, g2]; decide
  rw [if_neg e1, if_neg e2]
  rfl

section
variable {w0 w : World} {A : HP}
section
attribute [local go_sem] F19.t4_eq
theorem store_any [Gives A Tabs] {n : Nat} (hn : 1 ≤ n ∧ n ≤ 4096) (h : St w0 A w) :
    Calls Tryd.prog 19 #[.int .i64 n] w fun e w' => ∃ b, St w0 (StoreP b 0 0 (storeF n) * A) w' ∧ e = .returned (.pointer (some ⟨b, 0, none⟩)) := by
  refine F19.calls (by simp) ?_
  unfold F19.code
  simp -dsimp -implicitDefEqProofs (disch := omega) only [go_sem, reqD_of, dec_t, dec_f, wrap_i64, wrap_u32, wrap_u64, wrap_u8]
  refine onV_of (v := .agg (cfgL (storeCfg n)).toArray) (by kernel_rfl) ?_
  simp -dsimp -implicitDefEqProofs (disch := omega) only [go_sem, reqD_of, dec_t, dec_f, wrap_i64, wrap_u32, wrap_u64, wrap_u8]
  refine (new_any (c := storeCfg n) (storeCfg_in (by omega)) h).mono ?_
  intro e w1 hq
  rw [newF_store hn] at hq
  obtain ⟨b, h1, rfl⟩ := hq
  simp -dsimp -implicitDefEqProofs (disch := omega) only [go_sem, reqD_of, dec_t, dec_f, wrap_i64, wrap_u32, wrap_u64, wrap_u8]
  exact ⟨b, h1, rfl⟩

/-- An operation: a new node. -/
def makF (p : Nat) (nm : List UInt8) (m : Nat) : OpD := ⟨1, p, nm.take 0, 0, ⟨0, 0, nm, m, ann, staff, ann, 0, 0, 0, 0, 0, 0⟩, 0, [], 0⟩
end

theorem mak_any (h : St w0 A w) {p m : Nat} {nm : List UInt8} :
    Calls Tryd.prog 21 #[.int .u64 p, .string (strOf nm), .int .u32 m] w fun e w' => St w0 A w' ∧ e = .returned (.agg (opL (makF p nm m) (.slice none 0 0)).toArray) := by
  refine F21.calls (by simp) ?_
  unfold F21.code
  simp -dsimp -implicitDefEqProofs (disch := omega) only [go_sem, reqD_of, dec_t, dec_f, wrap_i64, wrap_u32, wrap_u64, wrap_u8]
  refine h.new fun B w1 h1 => ?_
  simp -dsimp -implicitDefEqProofs (disch := omega) only [go_sem, reqD_of, dec_t, dec_f, wrap_i64, wrap_u32, wrap_u64, wrap_u8]
  refine onV_of (v := .agg (infL (makF p nm m).node).toArray) (by kernel_rfl) ?_
  simp -dsimp -implicitDefEqProofs (disch := omega) only [go_sem, reqD_of, dec_t, dec_f, wrap_i64, wrap_u32, wrap_u64, wrap_u8]
  refine onV_of (v := .agg (opL (makF p nm m) (.slice none 0 0)).toArray) (by kernel_rfl) ?_
  simp -dsimp -implicitDefEqProofs (disch := omega) only [go_sem, reqD_of, dec_t, dec_f, wrap_i64, wrap_u32, wrap_u64, wrap_u8]
  refine h1.stoAll (b := B) (cs := opL (makF p nm m) (.slice none 0 0)) rfl rfl (by intro v hv; simp only [opL, List.mem_cons, List.not_mem_nil, or_false] at hv; rcases hv with rfl | rfl | rfl | rfl | rfl | rfl | rfl | rfl | rfl | rfl | rfl | rfl | rfl | rfl | rfl | rfl | rfl | rfl | rfl | rfl <;> rfl) fun w2 h2 => ?_
  simp -dsimp -implicitDefEqProofs (disch := omega) only [go_sem, reqD_of, dec_t, dec_f, wrap_i64, wrap_u32, wrap_u64, wrap_u8]
  refine resC_1 (a := ⟨B, 0, none⟩) (v := .agg (opL (makF p nm m) (.slice none 0 0)).toArray) (by simp -dsimp -implicitDefEqProofs only [go_sem]) (run_loadVar_row fact_aggSz_53 (h2.rowH B 20 rfl)) ?_
  exact ⟨h2.right, rfl⟩
end
end Go.Proofs.YtijnmokpihhhcaaDoor

namespace Go.Proofs.YtijnmokpihhhcaaDoor
open Go
set_option linter.unusedVariables false
set_option linter.unusedSimpArgs false
set_option maxRecDepth 100000

abbrev o1 : OpD := makF 1 [97] 2147484096
abbrev o2 : OpD := makF 2 [98] 384
abbrev o3 : OpD := makF 2 [99] 384
abbrev o4 : OpD := ⟨6, 3, [], 0, infZ, 250, [1, 2, 3, 4, 5, 6], 0⟩
abbrev o5 : OpD := ⟨6, 3, [], 0, infZ, 250, [1, 2, 3, 4, 5, 6, 7], 0⟩
def s0 : SD := storeF 3
def s1 : SD := (doF s0 o1).1
def s2 : SD := (doF s1 o2).1
def s4 : SD := (doF s2 o4).1
theorem r1 : (doF s0 o1).2 = (2, 0) := by decide
theorem r2 : (doF s1 o2).2 = (3, 0) := by decide
theorem r3 : doF s2 o2 = (s2, 0, 82) := by rfl
theorem r4 : doF s2 o3 = (s2, 0, 83) := by rfl
theorem r5 : (doF s2 o4).2 = (3, 0) := by decide
theorem r6 : doF s4 o5 = (s4, 0, 84) := by rfl
theorem r7 : readS s4 3 248 4 = [0, 0, 1, 2] := by decide
theorem r8 : (toldI s4 3).length = 256 ∧ (toldI s4 3).parent = 2 ∧ (toldI s4 3).name = [98] ∧ (findN s4.L 3).isSome = true ∧ s4.L.length = 3 := by decide
end Go.Proofs.YtijnmokpihhhcaaDoor

namespace Go.Proofs.YtijnmokpihhhcaaDoor
open Go
set_option linter.unusedVariables false
set_option linter.unusedSimpArgs false
set_option maxRecDepth 100000

theorem mak_in {p m : Nat} {nm : List UInt8} (hm : m < 4294967296) (hn : nm.length ≤ 4294967296) : OpIn (makF p nm m) :=
  ⟨⟨hm, by show (0 : Nat) < _; decide, by show (0 : Nat) < _; decide⟩, by show (0 : Nat) < _; decide, by show (0 : Nat) < _; decide, by show _ ≤ (0 : Int); decide, by show (0 : Int) ≤ _; decide, by show (0 : Nat) ≤ _; decide, by show (nm.take 0).length ≤ _; simp, hn, by show ann.length ≤ _; decide, by show staff.length ≤ _; decide, by show ann.length ≤ _; decide⟩

section
variable {w0 w : World} {A : HP}
section
attribute [local go_sem] F11.t11_eq F11.t4_eq
theorem works_any [Gives A Tabs] (h : St w0 A w) : Calls Tryd.prog 11 #[] w fun e w' => St w0 A w' ∧ e = .returned (.bool true) := by
  refine F11.calls (by simp) ?_
  unfold F11.code
  have hN := h.nilR 5 1
  haveI gN : Gives (RowO 5 1 (.slice none 0 0) 0 [] * A) (RdB (.slice none 0 0) []) := ⟨(Ent.left _ _).trans (RowO.reads _ _ _ _ _)⟩
  haveI g1 : Gives (RowO 5 1 (.slice none 0 0) 0 [] * A) (RdB (.slice none 0 0) o1.data) := gN
  haveI g2 : Gives (RowO 5 1 (.slice none 0 0) 0 [] * A) (RdB (.slice none 0 0) o2.data) := gN
  haveI g3 : Gives (RowO 5 1 (.slice none 0 0) 0 [] * A) (RdB (.slice none 0 0) o3.data) := gN
  simp -dsimp -implicitDefEqProofs (disch := omega) only [go_sem, reqD_of, dec_t, dec_f, wrap_i64, wrap_u32, wrap_u64, wrap_u8]
  refine (store_any (n := 3) (by decide) hN).mono ?_
  rintro e w1 ⟨b, h1, rfl⟩
  simp -dsimp -implicitDefEqProofs (disch := omega) only [go_sem, reqD_of, dec_t, dec_f, wrap_i64, wrap_u32, wrap_u64, wrap_u8]
  refine (next_any h1).mono ?_
  rintro e w2 ⟨h2, rfl⟩
  simp -dsimp -implicitDefEqProofs (disch := omega) only [go_sem, reqD_of, dec_t, dec_f, wrap_i64, wrap_u32, wrap_u64, wrap_u8]
  refine (mak_any (p := 1) (nm := [97]) (m := 2147484096) h2).mono ?_
  rintro e w3 ⟨h3, rfl⟩
  simp -dsimp -implicitDefEqProofs (disch := omega) only [go_sem, reqD_of, dec_t, dec_f, wrap_i64, wrap_u32, wrap_u64, wrap_u8]
  refine (do_any (o := o1) (vd := .slice none 0 0) (mak_in (by decide) (by decide)) (by decide) (by decide) h3).mono ?_
  rintro e w4 ⟨h4, rfl⟩
  have h4 : St w0 (StoreP b 0 0 s1 * (RowO 5 1 (.slice none 0 0) 0 [] * A)) w4 := h4
  rw [show (doF (storeF 3) o1).2 = (2, 0) from r1]
  simp -dsimp -implicitDefEqProofs (disch := omega) only [go_sem, reqD_of, dec_t, dec_f, wrap_i64, wrap_u32, wrap_u64, wrap_u8]
  refine (mak_any (p := 2) (nm := [98]) (m := 384) h4).mono ?_
  rintro e w5 ⟨h5, rfl⟩
  simp -dsimp -implicitDefEqProofs (disch := omega) only [go_sem, reqD_of, dec_t, dec_f, wrap_i64, wrap_u32, wrap_u64, wrap_u8]
  refine (do_any (o := o2) (vd := .slice none 0 0) (mak_in (by decide) (by decide)) (by decide) (by decide) h5).mono ?_
  rintro e w6 ⟨h6, rfl⟩
  have h6 : St w0 (StoreP b 0 0 s2 * (RowO 5 1 (.slice none 0 0) 0 [] * A)) w6 := h6
  rw [r2]
  simp -dsimp -implicitDefEqProofs (disch := omega) only [go_sem, reqD_of, dec_t, dec_f, wrap_i64, wrap_u32, wrap_u64, wrap_u8]
  refine (mak_any (p := 2) (nm := [98]) (m := 384) h6).mono ?_
  rintro e w7 ⟨h7, rfl⟩
  simp -dsimp -implicitDefEqProofs (disch := omega) only [go_sem, reqD_of, dec_t, dec_f, wrap_i64, wrap_u32, wrap_u64, wrap_u8]
  refine (do_any (o := o2) (vd := .slice none 0 0) (mak_in (by decide) (by decide)) (by decide) (by decide) h7).mono ?_
  rintro e w8 ⟨h8, rfl⟩
  rw [r3] at h8 ⊢
  simp -dsimp -implicitDefEqProofs (disch := omega) only [go_sem, reqD_of, dec_t, dec_f, wrap_i64, wrap_u32, wrap_u64, wrap_u8]
  refine (mak_any (p := 2) (nm := [99]) (m := 384) h8).mono ?_
  rintro e w9 ⟨h9, rfl⟩
  simp -dsimp -implicitDefEqProofs (disch := omega) only [go_sem, reqD_of, dec_t, dec_f, wrap_i64, wrap_u32, wrap_u64, wrap_u8]
  refine (do_any (o := o3) (vd := .slice none 0 0) (mak_in (by decide) (by decide)) (by decide) (by decide) h9).mono ?_
  rintro e w10 ⟨h10, rfl⟩
  rw [r4] at h10 ⊢
  have hn : ((storeF 3).next : Int) = 2 := rfl
  simp -dsimp -implicitDefEqProofs (disch := omega) only [go_sem, reqD_of, dec_t, dec_f, wrap_i64, wrap_u32, wrap_u64, wrap_u8, hn]
  refine h10.lit (t := 51) (n := 6) (cells := ([1, 2, 3, 4, 5, 6] : List UInt8).map bv) rowTy_bytes rfl (by decide) (by decide) fun v11 w11 h11 => ?_
  obtain ⟨a11, c11, rfl, _⟩ := h11.rowForm v11
  simp -dsimp -implicitDefEqProofs (disch := omega) only [go_sem, reqD_of, dec_t, dec_f, wrap_i64, wrap_u32, wrap_u64, wrap_u8, hn]
  refine onV_of (v := .agg (opL o4 (.slice a11 6 c11)).toArray) (by rfl) ?_
  simp -dsimp -implicitDefEqProofs (disch := omega) only [go_sem, reqD_of, dec_t, dec_f, wrap_i64, wrap_u32, wrap_u64, wrap_u8, hn]
  haveI g4 : Gives (RowO 5 1 (.slice a11 6 c11) 6 (([1, 2, 3, 4, 5, 6] : List UInt8).map bv) * (RowO 5 1 (.slice none 0 0) 0 [] * A)) (RdB (.slice a11 6 c11) o4.data) := ⟨(Ent.left _ _).trans (RowO.reads _ _ _ _ _)⟩
  have i4 : OpIn o4 := ⟨⟨by decide, by decide, by decide⟩, by decide, by decide, by decide, by decide, by decide, by decide, by decide, by decide, by decide, by decide⟩
  refine (do_any (o := o4) (vd := .slice a11 6 c11) i4 (by decide) (by decide) h11.sw2).mono ?_
  rintro e w12 ⟨h12, rfl⟩
  have h12 : St w0 (StoreP b 0 0 s4 * (RowO 5 1 (.slice none 0 0) 0 [] * A)) w12 := h12.drop2
  rw [r5]
  simp -dsimp -implicitDefEqProofs (disch := omega) only [go_sem, reqD_of, dec_t, dec_f, wrap_i64, wrap_u32, wrap_u64, wrap_u8, hn]
  refine h12.lit (t := 51) (n := 7) (cells := ([1, 2, 3, 4, 5, 6, 7] : List UInt8).map bv) rowTy_bytes rfl (by decide) (by decide) fun v13 w13 h13 => ?_
  obtain ⟨a13, c13, rfl, _⟩ := h13.rowForm v13
  simp -dsimp -implicitDefEqProofs (disch := omega) only [go_sem, reqD_of, dec_t, dec_f, wrap_i64, wrap_u32, wrap_u64, wrap_u8, hn]
  refine onV_of (v := .agg (opL o5 (.slice a13 7 c13)).toArray) (by rfl) ?_
  simp -dsimp -implicitDefEqProofs (disch := omega) only [go_sem, reqD_of, dec_t, dec_f, wrap_i64, wrap_u32, wrap_u64, wrap_u8, hn]
  haveI g5 : Gives (RowO 5 1 (.slice a13 7 c13) 7 (([1, 2, 3, 4, 5, 6, 7] : List UInt8).map bv) * (RowO 5 1 (.slice none 0 0) 0 [] * A)) (RdB (.slice a13 7 c13) o5.data) := ⟨(Ent.left _ _).trans (RowO.reads _ _ _ _ _)⟩
  have i5 : OpIn o5 := ⟨⟨by decide, by decide, by decide⟩, by decide, by decide, by decide, by decide, by decide, by decide, by decide, by decide, by decide, by decide⟩
  refine (do_any (o := o5) (vd := .slice a13 7 c13) i5 (by decide) (by decide) h13.sw2).mono ?_
  rintro e w14 ⟨h14, rfl⟩
  have h14 := h14.drop2
  rw [r6] at h14 ⊢
  simp -dsimp -implicitDefEqProofs (disch := omega) only [go_sem, reqD_of, dec_t, dec_f, wrap_i64, wrap_u32, wrap_u64, wrap_u8, hn]
  refine (sread_any (p := 3) (off := 248) (k := 4) h14 (by decide) (by decide)).mono ?_
  rintro e w15 ⟨v15, h15, rfl⟩
  rw [r7] at h15
  obtain ⟨a15, c15, rfl, _⟩ := h15.rowForm v15
  simp -dsimp -implicitDefEqProofs (disch := omega) only [go_sem, reqD_of, dec_t, dec_f, wrap_i64, wrap_u32, wrap_u64, wrap_u8, hn]
  refine (node_any (p := 3) h15.sw2).mono ?_
  rintro e w16 ⟨h16, rfl⟩
  obtain ⟨q1, q2, q3, q4, q5⟩ := r8
  simp -dsimp -implicitDefEqProofs (disch := omega) only [go_sem, reqD_of, dec_t, dec_f, wrap_i64, wrap_u32, wrap_u64, wrap_u8, hn, toldV, q4]
  refine h16.new fun D w17 h17 => ?_
  simp -dsimp -implicitDefEqProofs (disch := omega) only [go_sem, reqD_of, dec_t, dec_f, wrap_i64, wrap_u32, wrap_u64, wrap_u8, hn]
  refine h17.stoAll (b := D) (cs := infL (toldI s4 3)) rfl rfl (infL_cells _) fun w18 h18 => ?_
  simp -dsimp -implicitDefEqProofs (disch := omega) only [go_sem, reqD_of, dec_t, dec_f, wrap_i64, wrap_u32, wrap_u64, wrap_u8, hn]
  refine (count_any (h18.sw2)).mono ?_
  rintro e w19 ⟨h19, rfl⟩
  simp -dsimp -implicitDefEqProofs (disch := omega) only [go_sem, reqD_of, dec_t, dec_f, wrap_i64, wrap_u32, wrap_u64, wrap_u8, hn, q5]
  refine St.str (bs := [0, 0, 1, 2]) h19 ((Ent.right _ _).trans ((Ent.right _ _).trans ((Ent.left _ _).trans (RowO.reads _ _ _ _ _)))) Tryd.underlying51 Tryd.underlying5 Tryd.underlying9 ?_
  have e1 : ((toldI s4 3).length : Int) = 256 := by rw [q1]; rfl
  have e2 : ((toldI s4 3).parent : Int) = 2 := by rw [q2]; rfl
  simp -dsimp -implicitDefEqProofs (disch := omega) only [go_sem, reqD_of, dec_t, dec_f, wrap_i64, wrap_u32, wrap_u64, wrap_u8, hn, q5, h19.cl D, e1, e2, q3]
  exact h19.right.right.right.right

end
end
end Go.Proofs.YtijnmokpihhhcaaDoor

namespace Go.Proofs.YtijnmokpihhhcaaDoor
open Go
set_option linter.unusedVariables false
set_option linter.unusedSimpArgs false
set_option maxRecDepth 100000

section
variable {w0 w : World} {A : HP}
abbrev kC : List Value := [.int .u8 1, .int .u8 2, .int .u8 3, .int .u8 4, .int .u8 5, .int .u8 6, .int .u8 7]
abbrev mC : List Value := [.int .u8 1, .int .u8 2, .int .u8 4, .int .u8 8, .int .u8 16, .int .u8 32, .int .u8 64]
abbrev eC : List Value := [.int .i64 80, .int .i64 81, .int .i64 82, .int .i64 83, .int .i64 84, .int .i64 85, .int .i64 86, .int .i64 87]
section
attribute [local go_sem] F3.t6_eq F3.t7_eq F3.t11_eq F3.t12_eq F3.t14_eq F3.t9_eq
theorem names_any [Gives A Tabs] (h : St w0 A w) : Calls Tryd.prog 3 #[] w fun e w' => St w0 A w' ∧ e = .returned (.bool true) := by
  refine F3.calls (by simp) ?_
  unfold F3.code
  simp -dsimp -implicitDefEqProofs (disch := omega) only [go_sem, reqD_of, dec_t, dec_f, wrap_i64, wrap_u32, wrap_u64, wrap_u8]
  refine h.lit (t := 23) (n := 7) (cells := kC) (e := 22) (s := 1) (bs := 1) (zs := [.int .u8 0]) (by kernel_rfl) rfl (by decide) (by decide) fun v1 w1 h1 => ?_
  obtain ⟨a1, c1, rfl, _⟩ := h1.rowForm v1
  simp -dsimp -implicitDefEqProofs (disch := omega) only [go_sem, reqD_of, dec_t, dec_f, wrap_i64, wrap_u32, wrap_u64, wrap_u8]
  refine h1.lit (t := 25) (n := 7) (cells := mC) (e := 24) (s := 1) (bs := 1) (zs := [.int .u8 0]) (by kernel_rfl) rfl (by decide) (by decide) fun v2 w2 h2 => ?_
  obtain ⟨a2, c2, rfl, _⟩ := h2.rowForm v2
  simp -dsimp -implicitDefEqProofs (disch := omega) only [go_sem, reqD_of, dec_t, dec_f, wrap_i64, wrap_u32, wrap_u64, wrap_u8]
  refine h2.lit (t := 27) (n := 8) (cells := eC) (e := 26) (s := 1) (bs := 8) (zs := [.int .i64 0]) (by kernel_rfl) rfl (by decide) (by decide) fun v3 w3 h3 => ?_
  obtain ⟨a3, c3, rfl, _⟩ := h3.rowForm v3
  simp -dsimp -implicitDefEqProofs (disch := omega) only [go_sem, reqD_of, dec_t, dec_f, wrap_i64, wrap_u32, wrap_u64, wrap_u8]
  refine loop_intro (fun e w' => e.ds = [] ∧ e.ρ 1 = .slice a1 7 c1 ∧ e.ρ 2 = .slice a2 7 c2 ∧ e.ρ 3 = .slice a3 8 c3 ∧ ∃ i : Nat, i ≤ 7 ∧ e.ρ 4 = .int .i64 i ∧
      St w0 (RowO 26 1 (.slice a3 8 c3) 8 eC * (RowO 24 1 (.slice a2 7 c2) 7 mC * (RowO 22 1 (.slice a1 7 c1) 7 kC * A))) w')
    (fun e _ => match e.ρ 4 with | .int _ x => (7 - x).toNat | _ => 0) ?_ ?_
  · exact ⟨by simp -dsimp -implicitDefEqProofs only [go_sem], by simp -dsimp -implicitDefEqProofs only [go_sem], by simp -dsimp -implicitDefEqProofs only [go_sem], by simp -dsimp -implicitDefEqProofs only [go_sem], 0, by omega, by simp -dsimp -implicitDefEqProofs only [go_sem], h3⟩
  clear h h1 h2 h3
  rintro e w ⟨hd, e1, e2, e3, i, hi, e4, h⟩
  by_cases hlt : (i : Int) < 7
  · obtain ⟨g1, o1, rfl, p1⟩ := h.drew.atS (a := a1) (n := 7) (c := c1) (xs := kC) (k := i) (by show i < 7; omega)
    obtain ⟨g2, o2, rfl, p2⟩ := h.drew.atS (a := a2) (n := 7) (c := c2) (xs := mC) (k := i) (by show i < 7; omega)
    rcases (by omega : i = 0 ∨ i = 1 ∨ i = 2 ∨ i = 3 ∨ i = 4 ∨ i = 5 ∨ i = 6) with rfl | rfl | rfl | rfl | rfl | rfl | rfl
    all_goals
      simp only [kC, mC, List.getElem_cons_zero, List.getElem_cons_succ, Nat.add_zero] at p1 p2
      simp only [Int.ofNat_eq_natCast, Int.cast_ofNat_Int] at e4
    all_goals
      simp -dsimp -implicitDefEqProofs (disch := omega) only [go_sem, reqD_of, dec_t, dec_f, wrap_i64, wrap_u32, wrap_u64, wrap_u8, hd, e1, e2, e3, e4, p1, p2]
    · exact ⟨1, by omega, rfl, h.drew⟩
    · exact ⟨2, by omega, rfl, h.drew⟩
    · exact ⟨3, by omega, rfl, h.drew⟩
    · exact ⟨4, by omega, rfl, h.drew⟩
    · exact ⟨5, by omega, rfl, h.drew⟩
    · exact ⟨6, by omega, rfl, h.drew⟩
    · exact ⟨7, by omega, rfl, h.drew⟩
  · simp -dsimp -implicitDefEqProofs (disch := omega) only [go_sem, reqD_of, dec_t, dec_f, wrap_i64, wrap_u32, wrap_u64, wrap_u8, hd, e1, e2, e3, e4, hlt]
    refine loop_intro (fun e w' => e.ds = [] ∧ e.ρ 3 = .slice a3 8 c3 ∧ ∃ i : Nat, i ≤ 8 ∧ e.ρ 5 = .int .i64 i ∧ St w0 (RowO 26 1 (.slice a3 8 c3) 8 eC * A) w')
      (fun e _ => match e.ρ 5 with | .int _ x => (8 - x).toNat | _ => 0) ?_ ?_
    · exact ⟨by simp -dsimp -implicitDefEqProofs only [go_sem, hd], by simp -dsimp -implicitDefEqProofs only [go_sem, e3], 0, by omega, by simp -dsimp -implicitDefEqProofs only [go_sem], h.drop2.drop2⟩
    clear h hlt hd e1 e2 e3 e4 e w
    rintro e w ⟨hd, e3, j, hj, e5, h⟩
    by_cases hlt : (j : Int) < 8
    · obtain ⟨g1, o1, rfl, p1⟩ := h.atS (a := a3) (n := 8) (c := c3) (xs := eC) (k := j) (by show j < 8; omega)
      rcases (by omega : j = 0 ∨ j = 1 ∨ j = 2 ∨ j = 3 ∨ j = 4 ∨ j = 5 ∨ j = 6 ∨ j = 7) with rfl | rfl | rfl | rfl | rfl | rfl | rfl | rfl
      all_goals
        simp only [eC, List.getElem_cons_zero, List.getElem_cons_succ, Nat.add_zero] at p1
        simp only [Int.ofNat_eq_natCast, Int.cast_ofNat_Int] at e5
      all_goals
        simp -dsimp -implicitDefEqProofs (disch := omega) only [go_sem, reqD_of, dec_t, dec_f, wrap_i64, wrap_u32, wrap_u64, wrap_u8, hd, e3, e5, p1]
      · exact ⟨1, by omega, rfl, h⟩
      · exact ⟨2, by omega, rfl, h⟩
      · exact ⟨3, by omega, rfl, h⟩
      · exact ⟨4, by omega, rfl, h⟩
      · exact ⟨5, by omega, rfl, h⟩
      · exact ⟨6, by omega, rfl, h⟩
      · exact ⟨7, by omega, rfl, h⟩
      · exact ⟨8, by omega, rfl, h⟩
    · simp -dsimp -implicitDefEqProofs (disch := omega) only [go_sem, reqD_of, dec_t, dec_f, wrap_i64, wrap_u32, wrap_u64, wrap_u8, hd, e3, e5, hlt]
      refine (works_any h).mono ?_
      rintro e' w2 ⟨h2, rfl⟩
      simp -dsimp -implicitDefEqProofs (disch := omega) only [go_sem, reqD_of, dec_t, dec_f, wrap_i64, wrap_u32, wrap_u64, wrap_u8, hd]
      exact h2.right
end
end
end Go.Proofs.YtijnmokpihhhcaaDoor

namespace Go.Proofs.YtijnmokpihhhcaaDoor
open Go
set_option linter.unusedVariables false

theorem rSlice_choose {α β : Type} {s b : Nat} {R : Rdr α} {enc : β → List Value} {p : β → Heap → Prop} (he : ∀ x cs h, R.rel x cs h → ∃ y, cs = enc y ∧ p y h) (hk : ∀ y, (enc y).length = s) {xs : List α} {v : Value} {h : Heap}
    (c : (rSlice s b R).rel xs [v] h) : ∃ ys : List β, ys.length = xs.length ∧ (∀ y ∈ ys, p y h) ∧ Reads s v ys.length (ys.flatMap enc) h := by
  obtain ⟨a, cap, e, l, m, r, k⟩ := c
  simp only [List.cons.injEq, and_true] at e
  subst e
  rcases k with k | ⟨g, o, cur, T, fr, ea, hg, hj⟩
  · subst k
    exact ⟨[], rfl, fun y hy => by simp at hy, by simp, a, cap, rfl, l, .inl rfl⟩
  · obtain ⟨ys, hl, hy⟩ := choose_list (n := xs.length) (p := fun j (y : β) => (cur.toList.drop (o + j * s)).take s = enc y ∧ p y h) fun j hj' => he _ _ _ (hj j hj').2
    refine ⟨ys, hl, fun y hm => ?_, ?_⟩
    · obtain ⟨i, hi, rfl⟩ := List.getElem_of_mem hm
      exact (hy i hi).2
    · refine ⟨flatMap_length hk ys, a, cap, by rw [hl], by omega, .inr ⟨g, o, cur, T, fr, ea, hg, fun t ht => ?_⟩⟩
      rw [flatMap_length hk] at ht
      obtain ⟨i, j, hi, hjs, e, hf⟩ := flatMap_at_all hk ys t ht
      rw [hf, ← (hy i hi).1, e, List.getElem?_take_of_lt hjs, List.getElem?_drop, Array.getElem?_toList]
      congr 1
      omega

/-- A part of an element, as a row. -/
theorem rowV_part {w : World} {b o k lo n : Nat} {cs : List Value} (hk : cs.length = k) (hc : ∀ j, j < k → w.cell? ⟨b, o + j, none⟩ = cs[j]?) (h : lo + n ≤ k) : rowV w ⟨b, o + lo, none⟩ n = some (.agg ((cs.drop lo).take n).toArray) := by
  unfold rowV
  rw [cellsFrom_of w _ n 0 ((cs.drop lo).take n) (by rw [List.length_take, List.length_drop]; omega) fun j hj => by
    rw [Nat.zero_add, add_lit, Nat.add_assoc, hc (lo + j) (by omega), List.getElem?_take_of_lt hj, List.getElem?_drop]]
  rfl

end Go.Proofs.YtijnmokpihhhcaaDoor

namespace Go.Proofs.YtijnmokpihhhcaaDoor
open Go
set_option linter.unusedVariables false

theorem flatMap_one {α β : Type} (f : α → β) (l : List α) : (l.flatMap fun x => [f x]) = l.map f := by
  induction l with
  | nil => rfl
  | cons a l ih => simp [ih]
theorem wf_i64 {z : Int} (h : (Lit.int .i64 z).wf = true) : -9223372036854775808 ≤ z ∧ z ≤ 9223372036854775807 := by
  simpa [Lit.wf, IntKind.min, IntKind.max, IntKind.signed, IntKind.bits] using h
theorem rSlice_len {α : Type} {s b : Nat} {R : Rdr α} {xs : List α} {v : Value} {h : Heap} (k : (rSlice s b R).rel xs [v] h) : xs.length * b ≤ reachBytes := by
  obtain ⟨_, _, _, _, _, r, _⟩ := k
  exact r
theorem rSlice_all {α : Type} {s b : Nat} {R : Rdr α} {xs : List α} {v : Value} {h : Heap} {p : α → Prop} (hp : ∀ x cs h, R.rel x cs h → p x) (k : (rSlice s b R).rel xs [v] h) : ∀ x ∈ xs, p x := by
  obtain ⟨_, _, _, _, _, _, k⟩ := k
  intro x hx
  rcases k with rfl | ⟨_, _, _, _, _, _, _, hj⟩
  · simp at hx
  · obtain ⟨j, hj', rfl⟩ := List.mem_iff_getElem.1 hx
    exact hp _ _ _ (hj j hj').2
theorem ints_arg {W : World} {xs : List Int} {v : Value} (k : (rSlice 1 8 (rInt .i64)).rel xs [v] (heapOf W)) :
    Ent (Old W) (Reads 1 v xs.length (xs.map fun z => .int .i64 z)) ∧ (∀ z ∈ xs, -9223372036854775808 ≤ z ∧ z ≤ 9223372036854775807) ∧ xs.length ≤ 4611686018427387904 := by
  refine ⟨?_, rSlice_all (R := rInt .i64) (fun x cs h e => wf_i64 e.2) k, ?_⟩
  · have := (Rdr.old k).trans (rSlice_reads (R := rInt .i64) (enc := fun z => [.int .i64 z]) (fun x cs h e => e.1) (fun _ => rfl))
    rwa [flatMap_one] at this
  · have := rSlice_len k
    have := reachBytes_lt
    omega
theorem texts_arg {W : World} {xs : List ByteArray} {v : Value} (k : (rSlice 1 16 rStr).rel xs [v] (heapOf W)) :
    Ent (Old W) (Reads 1 v (xs.map fun s => s.data.toList).length ((xs.map fun s => s.data.toList).map sv)) ∧ (xs.map fun s => s.data.toList).length ≤ 4611686018427387904 ∧ ∀ s ∈ xs.map fun s => s.data.toList, s.length ≤ 140737488355328 := by
  refine ⟨?_, ?_, ?_⟩
  · have := (Rdr.old k).trans (rSlice_reads (R := rStr) (enc := fun s => [.string s]) (fun x cs h e => e.1) (fun _ => rfl))
    rw [flatMap_one] at this
    rw [List.length_map, List.map_map]
    have e : (sv ∘ fun (s : ByteArray) => s.data.toList) = fun s => .string s := by
      funext s
      simp [sv, strOf_eta]
    rw [e]; exact this
  · have := rSlice_len k
    have := reachBytes_lt
    simp
    omega
  · intro s hs
    obtain ⟨x, hx, rfl⟩ := List.mem_map.1 hs
    have h1 := rSlice_all (R := rStr) (p := fun s => s.size ≤ reachBytes) (fun x cs h e => e.2) k x hx
    rw [Lib.size_eq] at h1
    have := reachBytes_lt
    omega
end Go.Proofs.YtijnmokpihhhcaaDoor

namespace Go.Proofs.YtijnmokpihhhcaaDoor
open Go
set_option linter.unusedVariables false
set_option linter.unusedSimpArgs false
set_option maxRecDepth 100000

theorem bytes_arg {W : World} {xs : List Int} {v : Value} {h : Heap} (k : (rSlice 1 1 (rInt .u8)).rel xs [v] h) : ∃ bs : List UInt8, RdB v bs h ∧ bs.length ≤ reachBytes := by
  obtain ⟨bs, hl, _, h2⟩ := rSlice_choose (β := UInt8) (enc := fun b => [bv b]) (p := fun _ _ => True) (fun x cs h r => by
    obtain ⟨rfl, w⟩ := r
    have hw : 0 ≤ x ∧ x ≤ 255 := by simpa [Lit.wf, IntKind.min, IntKind.max, IntKind.signed, IntKind.bits] using w
    refine ⟨UInt8.ofNat x.toNat, ?_, trivial⟩
    have : (((UInt8.ofNat x.toNat).toNat : Nat) : Int) = x := by simp; omega
    simp only [bv, this]) (fun _ => rfl) k
  have := rSlice_len k
  rw [flatMap_one] at h2
  exact ⟨bs, h2, by omega⟩

/-- An operation, and its data's slice. -/
structure OpV where
  o : OpD
  v : Value
def opVL (x : OpV) : List Value := opL x.o x.v
theorem opVL_len (x : OpV) : (opVL x).length = 20 := rfl
structure OpIs (x : OpV) (h : Heap) : Prop where
  kind : x.o.kind < 256
  mask : x.o.mask < 256
  offset : x.o.offset < 18446744073709551616
  mode : x.o.node.mode < 4294967296
  atime : x.o.node.atime < 4294967296
  mtime : x.o.node.mtime < 4294967296
  n0 : -9223372036854775808 ≤ x.o.n
  n1 : x.o.n ≤ 9223372036854775807
  data : RdB x.v x.o.data h
  dlen : x.o.data.length ≤ 140737488355328
  name : x.o.name.length ≤ 140737488355328
  nname : x.o.node.name.length ≤ 140737488355328
  uid : x.o.node.uid.length ≤ 140737488355328
  gid : x.o.node.gid.length ≤ 140737488355328
  muid : x.o.node.muid.length ≤ 140737488355328

abbrev rInf := rCons 1 (rInt .u64) (rCons 1 (rInt .u64) (rCons 1 rStr (rCons 1 (rInt .u32) (rCons 1 rStr (rCons 1 rStr (rCons 1 rStr (rCons 1 (rInt .u32) (rCons 1 (rInt .u32) (rCons 1 (rInt .u32) (rCons 1 (rInt .u64) (rCons 1 (rInt .i64) (rCons 1 (rInt .i64) (rEnd)))))))))))))
abbrev rOp := rCons 1 (rInt .u8) (rCons 1 (rInt .u64) (rCons 1 rStr (rCons 1 (rInt .u8) (rCons 13 rInf (rCons 1 (rInt .u64) (rCons 1 (rSlice 1 1 (rInt .u8)) (rCons 1 (rInt .i64) (rEnd))))))))

theorem wf_u8 {z : Int} (h : (Lit.int .u8 z).wf = true) : ((z.toNat : Nat) : Int) = z ∧ z.toNat < 256 := by
  have : 0 ≤ z ∧ z ≤ 255 := by simpa [Lit.wf, IntKind.min, IntKind.max, IntKind.signed, IntKind.bits] using h
  omega
theorem wf_u32 {z : Int} (h : (Lit.int .u32 z).wf = true) : ((z.toNat : Nat) : Int) = z ∧ z.toNat < 4294967296 := by
  have : 0 ≤ z ∧ z ≤ 4294967295 := by simpa [Lit.wf, IntKind.min, IntKind.max, IntKind.signed, IntKind.bits] using h
  omega
theorem wf_u64 {z : Int} (h : (Lit.int .u64 z).wf = true) : ((z.toNat : Nat) : Int) = z ∧ z.toNat < 18446744073709551616 := by
  have : 0 ≤ z ∧ z ≤ 18446744073709551615 := by simpa [Lit.wf, IntKind.min, IntKind.max, IntKind.signed, IntKind.bits] using h
  omega
theorem str_reach {s : ByteArray} (h : s.size ≤ reachBytes) : s.data.toList.length ≤ 140737488355328 := by
  have hq : reachBytes = 140737488351232 := rfl
  rw [Lib.size_eq] at h
  omega
theorem rOp_cells {x} {cs : List Value} {h : Heap} (r : rOp.rel x cs h) : ∃ y : OpV, cs = opVL y ∧ OpIs y h := by
  obtain ⟨x1, x2, x3, x4, ⟨y1, y2, y3, y4, y5, y6, y7, y8, y9, y10, y11, y12, y13, _⟩, x6, x7, x8, _⟩ := x
  obtain ⟨_, _, rfl, _, ⟨rfl, w1⟩, _, _, rfl, _, ⟨rfl, w2⟩, _, _, rfl, _, ⟨rfl, w3⟩, _, _, rfl, _, ⟨rfl, w4⟩, ci, _, rfl, _, ri, _, _, rfl, _, ⟨rfl, w6⟩, cd, _, rfl, hl7, r7, _, _, rfl, _, ⟨rfl, w8⟩, rfl⟩ := r
  obtain ⟨_, _, rfl, _, ⟨rfl, i1⟩, _, _, rfl, _, ⟨rfl, i2⟩, _, _, rfl, _, ⟨rfl, i3⟩, _, _, rfl, _, ⟨rfl, i4⟩, _, _, rfl, _, ⟨rfl, i5⟩, _, _, rfl, _, ⟨rfl, i6⟩, _, _, rfl, _, ⟨rfl, i7⟩, _, _, rfl, _, ⟨rfl, i8⟩, _, _, rfl, _, ⟨rfl, i9⟩, _, _, rfl, _, ⟨rfl, i10⟩, _, _, rfl, _, ⟨rfl, i11⟩, _, _, rfl, _, ⟨rfl, i12⟩, _, _, rfl, _, ⟨rfl, i13⟩, rfl⟩ := ri
  obtain ⟨v, rfl⟩ : ∃ v, cd = [v] := by
    match cd, hl7 with
    | [v], _ => exact ⟨v, rfl⟩
  obtain ⟨bs, hb, hbl⟩ := bytes_arg (W := default) r7
  obtain ⟨a1, a2⟩ := wf_u8 w1
  obtain ⟨b1, b2⟩ := wf_u64 w2
  obtain ⟨c1, c2⟩ := wf_u8 w4
  obtain ⟨d1, d2⟩ := wf_u64 w6
  obtain ⟨e1, e2⟩ := wf_i64 w8
  obtain ⟨f1, f2⟩ := wf_u64 i1
  obtain ⟨g1, g2⟩ := wf_u64 i2
  obtain ⟨h1, h2⟩ := wf_u32 i4
  obtain ⟨k1, k2⟩ := wf_u32 i8
  obtain ⟨l1, l2⟩ := wf_u32 i9
  obtain ⟨m1, m2⟩ := wf_u32 i10
  obtain ⟨n1, n2⟩ := wf_u64 i11
  have hq : reachBytes = 140737488351232 := rfl
  refine ⟨⟨⟨x1.toNat, x2.toNat, x3.data.toList, x4.toNat, ⟨y1.toNat, y2.toNat, y3.data.toList, y4.toNat, y5.data.toList, y6.data.toList, y7.data.toList, y8.toNat, y9.toNat, y10.toNat, y11.toNat, y12, y13⟩, x6.toNat, bs, x8⟩, v⟩, ?_, ⟨a2, c2, d2, h2, k2, l2, e1, e2, hb, (by show bs.length ≤ 140737488355328; omega), str_reach w3, str_reach i3, str_reach i5, str_reach i6, str_reach i7⟩⟩
  simp only [opVL, opL, strOf_eta, a1, b1, c1, d1, f1, g1, h1, k1, l1, m1, n1, List.cons_append, List.nil_append]
end Go.Proofs.YtijnmokpihhhcaaDoor

namespace Go.Proofs.YtijnmokpihhhcaaDoor
open Go
set_option linter.unusedVariables false
set_option linter.unusedSimpArgs false
set_option maxRecDepth 100000

def wtO (o : OpD) : Nat := 100 + o.data.length + o.name.length + o.node.name.length + o.node.uid.length + o.node.gid.length + o.node.muid.length
/-- An operation whose data read so. -/
structure OpA (A : HP) (x : OpV) : Prop where
  kind : x.o.kind < 256
  mask : x.o.mask < 256
  offset : x.o.offset < 18446744073709551616
  mode : x.o.node.mode < 4294967296
  atime : x.o.node.atime < 4294967296
  mtime : x.o.node.mtime < 4294967296
  n0 : -9223372036854775808 ≤ x.o.n
  n1 : x.o.n ≤ 9223372036854775807
  data : Ent A (RdB x.v x.o.data)
  form : ∃ a c, x.v = .slice a x.o.data.length c
  wt : wtO x.o ≤ 1000000000000000
theorem OpIs.a {W : World} {x : OpV} (h : OpIs x (heapOf W)) : OpA (Old W) x := by
  refine ⟨h.kind, h.mask, h.offset, h.mode, h.atime, h.mtime, h.n0, h.n1, Ent.of fun _ ho => Reads.mono (fun b o e => ho b o e) h.data, ?_, ?_⟩
  · obtain ⟨_, a, c, e, _⟩ := h.data
    exact ⟨a, c, e⟩
  · have h1 := h.dlen
    have h2 := h.name
    have h3 := h.nname
    have h4 := h.uid
    have h5 := h.gid
    have h6 := h.muid
    unfold wtO
    omega
structure OpsP (A : HP) (v : Value) (ops : List OpV) : Prop where
  rd : Ent A (Reads 20 v ops.length (ops.flatMap opVL))
  each : ∀ x ∈ ops, OpA A x
  few : ops.length ≤ 1000000000000000
theorem ops_arg {W : World} {xs} {v : Value} (c : (rSlice 20 208 rOp).rel xs [v] (heapOf W)) : ∃ ops : List OpV, (∃ a c, v = .slice a ops.length c) ∧ OpsP (Old W) v ops := by
  obtain ⟨ops, hl, h1, h2⟩ := rSlice_choose (β := OpV) (enc := opVL) (p := OpIs) (fun x cs h r => rOp_cells r) opVL_len c
  have hb := rSlice_len c
  have hq : reachBytes = 140737488351232 := rfl
  have hr : Ent (Old W) (Reads 20 v ops.length (ops.flatMap opVL)) := Ent.of fun _ ho => Reads.mono (fun b o e => ho b o e) h2
  obtain ⟨_, a, c', e, _⟩ := St.rowsAt opVL_len (by decide) ((St.start W).ent hr)
  exact ⟨ops, ⟨a, c', e⟩, hr, fun y hy => (h1 y hy).a, by omega⟩
theorem OpA.in_ {A : HP} {x : OpV} (h : OpA A x) (hw : wtO x.o ≤ 8388608) : OpIn x.o := by
  unfold wtO at hw
  exact ⟨⟨h.mode, h.atime, h.mtime⟩, h.mask, h.offset, h.n0, h.n1, by omega, by omega, by omega, by omega, by omega, by omega⟩
/-- The weight of operations. -/
def wtL (ops : List OpV) : Nat := (ops.map fun x => wtO x.o).sum
theorem wt_take {ops : List OpV} {i : Nat} (hi : i < ops.length) : wtL (ops.take (i + 1)) = wtL (ops.take i) + wtO ops[i].o := by
  unfold wtL
  rw [List.take_succ_eq_append_getElem hi, List.map_append, List.sum_append]
  simp
theorem wt_mem {ops : List OpV} {x : OpV} (hx : x ∈ ops) : wtO x.o ≤ wtL ops := by
  induction ops with
  | nil => simp at hx
  | cons y ops ih =>
    unfold wtL at ih ⊢
    rw [List.map_cons, List.sum_cons]
    rcases List.mem_cons.1 hx with rfl | h
    · omega
    · have := ih h; omega
theorem wt_len (ops : List OpV) : 100 * ops.length ≤ wtL ops := by
  induction ops with
  | nil => simp [wtL]
  | cons y ops ih =>
    unfold wtL at ih ⊢
    rw [List.map_cons, List.sum_cons, List.length_cons]
    have : 100 ≤ wtO y.o := by unfold wtO; omega
    omega

section
variable {w0 w : World} {A : HP}

theorem ofOp_any {x : OpV} (hx : OpA A x) (h : St w0 A w) :
    Calls Tryd.prog 29 #[.agg (opVL x).toArray] w fun e w' => St w0 A w' ∧ e = .returned (.int .i64 (wtO x.o)) := by
  refine F29.calls (by simp) ?_
  unfold F29.code opVL
  obtain ⟨a, c, hv⟩ := hx.form
  have hw := hx.wt
  have e1 : ((wtO x.o : Nat) : Int) = 100 + x.o.data.length + x.o.name.length + x.o.node.name.length + x.o.node.uid.length + x.o.node.gid.length + x.o.node.muid.length := by unfold wtO; omega
  rw [hv]
  unfold wtO at hw
  simp -dsimp -implicitDefEqProofs (disch := omega) only [go_sem, reqD_of, dec_t, dec_f, wrap_i64, wrap_u32, wrap_u64, wrap_u8]
  refine h.new fun B w1 h1 => ?_
  simp -dsimp -implicitDefEqProofs (disch := omega) only [go_sem, reqD_of, dec_t, dec_f, wrap_i64, wrap_u32, wrap_u64, wrap_u8, h1.cl B]
  exact ⟨h1.right, by omega⟩
section
attribute [local go_sem] F25.t3_eq F25.t4_eq F25.t5_eq
theorem ofOps_any {a : Option Addr} {c : Nat} {ops : List OpV} (hP : OpsP A (.slice a ops.length c) ops) {n : Nat} (hn : n ≤ 4000000000000000000) (h : St w0 A w) :
    Calls Tryd.prog 25 #[.slice a ops.length c, .int .i64 n] w fun e w' => St w0 A w' ∧ ∃ k : Nat, e = .returned (.int .i64 k) ∧ (k ≤ 8388608 → n + wtL ops ≤ 8388608) := by
  refine F25.calls (by simp) ?_
  unfold F25.code
  have hfew := hP.few
  simp -dsimp -implicitDefEqProofs (disch := omega) only [go_sem, reqD_of, dec_t, dec_f, wrap_i64, wrap_u32, wrap_u64, wrap_u8]
  refine loop_intro (fun e w' => e.ds = [] ∧ e.ρ 0 = .slice a ops.length c ∧ ∃ i : Nat, i ≤ ops.length ∧ e.ρ 5 = .int .i64 i ∧ e.ρ 1 = .int .i64 (n + wtL (ops.take i) : Nat) ∧ n + wtL (ops.take i) ≤ 5000000000000000000 ∧ St w0 A w')
    (fun e _ => match e.ρ 5 with | .int _ k => (ops.length - k).toNat | _ => 0) ?_ ?_
  · exact ⟨by simp -dsimp -implicitDefEqProofs only [go_sem], by simp -dsimp -implicitDefEqProofs only [go_sem], 0, by omega, by simp -dsimp -implicitDefEqProofs only [go_sem], by simp -dsimp -implicitDefEqProofs only [go_sem]; simp [wtL], by simp [wtL]; omega, h⟩
  clear h
  rintro e w ⟨hd, e0, i, hi, e5, e1, hb, h⟩
  by_cases hlt : (i : Int) < ops.length
  case neg =>
    simp -dsimp -implicitDefEqProofs (disch := omega) only [go_sem, reqD_of, dec_t, dec_f, wrap_i64, wrap_u32, wrap_u64, wrap_u8, hd, e0, e5, e1, hlt]
    refine ⟨h, _, rfl, fun hx => ?_⟩
    have : i = ops.length := by omega
    rw [this, List.take_length] at hx
    exact hx
  by_cases hroom : ((n + wtL (ops.take i) : Nat) : Int) ≤ 8388608
  case neg =>
    simp -dsimp -implicitDefEqProofs (disch := omega) only [go_sem, reqD_of, dec_t, dec_f, wrap_i64, wrap_u32, wrap_u64, wrap_u8, hd, e0, e5, e1, hlt, hroom]
    exact ⟨h, _, rfl, fun _ => by omega⟩
  have hil : i < ops.length := by omega
  obtain ⟨_, a', c', hv, _, hat⟩ := St.rowsAt opVL_len (by decide) (h.ent hP.rd)
  simp only [Value.slice.injEq, true_and] at hv
  obtain ⟨rfl, rfl⟩ := hv
  obtain ⟨g, o, rfl, hrow, _⟩ := hat i hil
  have hx := hP.each _ (List.getElem_mem hil)
  have hw := hx.wt
  have ht := wt_take hil
  simp -dsimp -implicitDefEqProofs (disch := omega) only [go_sem, reqD_of, dec_t, dec_f, wrap_i64, wrap_u32, wrap_u64, wrap_u8, hd, e0, e5, e1, hlt, hroom, hrow]
  refine (ofOp_any hx h).mono ?_
  rintro e' w1 ⟨h1, rfl⟩
  simp -dsimp -implicitDefEqProofs (disch := omega) only [go_sem, reqD_of, dec_t, dec_f, wrap_i64, wrap_u32, wrap_u64, wrap_u8, hd, e0, e5, e1]
  exact ⟨⟨i + 1, by omega, by omega, by omega, by omega, h1⟩, by omega⟩

/-! ### A store behind operations -/

def runF (s : SD) (ops : List OpV) : SD := ops.foldl (fun s x => (doF s x.o).1) s
theorem run_take (s : SD) {ops : List OpV} {i : Nat} (hi : i < ops.length) : runF s (ops.take (i + 1)) = (doF (runF s (ops.take i)) ops[i].o).1 := by
  unfold runF
  rw [List.take_succ_eq_append_getElem hi, List.foldl_append]
  rfl
theorem one_next (s : SD) (p : Nat) (r : Except Nat NodeD) : (oneF s p r).1.next = s.next := by cases r <;> rfl
theorem do_next (s : SD) (o : OpD) : (doF s o).1.next ≤ s.next + 1 := by
  unfold doF
  split
  · simp
  split
  · simp
  split
  · unfold makeF; split <;> (try simp) <;> split <;> (try simp) <;> split <;> (try simp) <;> split <;> (try simp) <;> split <;> simp
  split
  · unfold delF; split <;> (try simp) <;> split <;> simp
  split
  · unfold callF; split <;> (try simp) <;> split <;> (try simp) <;> split <;> (try simp) <;> split <;> simp
  split
  · rw [one_next]; omega
  split
  · rw [one_next]; omega
  split
  · rw [one_next]; omega
  · rw [one_next]; omega
theorem run_next (s : SD) (ops : List OpV) : (runF s ops).next ≤ s.next + ops.length := by
  induction ops generalizing s with
  | nil => simp [runF]
  | cons x ops ih =>
    have h1 := ih (doF s x.o).1
    have h2 := do_next s x.o
    show (runF (doF s x.o).1 ops).next ≤ _
    rw [List.length_cons]
    omega
theorem run_wf {A : HP} {s : SD} (h : Wf s) {ops : List OpV} (ho : ∀ x ∈ ops, OpA A x) : Wf (runF s ops) := by
  induction ops generalizing s with
  | nil => exact h
  | cons x ops ih =>
    have hx := ho x (by simp)
    exact ih (do_wf h ⟨hx.mode, hx.atime, hx.mtime⟩) fun y hy => ho y (by simp [hy])
theorem store_wf {n : Nat} (h : 1 ≤ n ∧ n ≤ 4096) : Wf (storeF n) := by
  have h1 := root_wf (c := storeCfg n) (storeCfg_in (by omega)) (by show ¬ ((n : Int) < 1 ∨ 4096 < (n : Int)); omega) (by show userF ann = true; decide) (by show userF staff = true; decide)
  exact h1

end
section
attribute [local go_sem] F30.t6_eq F30.t7_eq F30.t8_eq F30.t4_eq
theorem grown_any [Gives A Tabs] {a : Option Addr} {c : Nat} {ops : List OpV} (hP : OpsP A (.slice a ops.length c) ops) (hw : wtL ops ≤ 8388608) (h : St w0 A w) :
    Calls Tryd.prog 30 #[.slice a ops.length c] w fun e w' => ∃ b, St w0 (StoreP b 0 0 (runF (storeF 100) ops) * A) w' ∧ e = .returned (.pointer (some ⟨b, 0, none⟩)) := by
  refine F30.calls (by simp) ?_
  unfold F30.code
  have hfew := wt_len ops
  simp -dsimp -implicitDefEqProofs (disch := omega) only [go_sem, reqD_of, dec_t, dec_f, wrap_i64, wrap_u32, wrap_u64, wrap_u8]
  refine (store_any (n := 100) (by decide) h).mono ?_
  rintro e w1 ⟨b, h1, rfl⟩
  simp -dsimp -implicitDefEqProofs (disch := omega) only [go_sem, reqD_of, dec_t, dec_f, wrap_i64, wrap_u32, wrap_u64, wrap_u8]
  refine loop_intro (fun e w' => e.ds = [] ∧ e.ρ 0 = .slice a ops.length c ∧ e.ρ 3 = .pointer (some ⟨b, 0, none⟩) ∧ ∃ i : Nat, i ≤ ops.length ∧ e.ρ 4 = .int .i64 i ∧ St w0 (StoreP b 0 0 (runF (storeF 100) (ops.take i)) * A) w')
    (fun e _ => match e.ρ 4 with | .int _ k => (ops.length - k).toNat | _ => 0) ?_ ?_
  · exact ⟨by simp -dsimp -implicitDefEqProofs only [go_sem], by simp -dsimp -implicitDefEqProofs only [go_sem], by simp -dsimp -implicitDefEqProofs only [go_sem], 0, by omega, by simp -dsimp -implicitDefEqProofs only [go_sem], h1⟩
  clear h h1
  rintro e w ⟨hd, e0, e3, i, hi, e4, h⟩
  by_cases hlt : (i : Int) < ops.length
  case neg =>
    have : i = ops.length := by omega
    subst this
    rw [List.take_length] at h
    simp -dsimp -implicitDefEqProofs (disch := omega) only [go_sem, reqD_of, dec_t, dec_f, wrap_i64, wrap_u32, wrap_u64, wrap_u8, hd, e0, e3, e4, hlt]
    exact ⟨b, h, rfl⟩
  have hil : i < ops.length := by omega
  obtain ⟨_, a', c', hv, _, hat⟩ := St.rowsAt opVL_len (by decide) (h.right.ent hP.rd)
  simp only [Value.slice.injEq, true_and] at hv
  obtain ⟨rfl, rfl⟩ := hv
  obtain ⟨g, o, rfl, hrow, _⟩ := hat i hil
  have hx := hP.each _ (List.getElem_mem hil)
  have hwx := wt_mem (List.getElem_mem hil)
  have hnx := run_next (storeF 100) (ops.take i)
  have hn2 : (storeF 100).next = 2 := rfl
  have hln : (ops.take i).length = i := by simp; omega
  haveI : Gives A (RdB ops[i].v ops[i].o.data) := ⟨hx.data⟩
  simp -dsimp -implicitDefEqProofs (disch := omega) only [go_sem, reqD_of, dec_t, dec_f, wrap_i64, wrap_u32, wrap_u64, wrap_u8, hd, e0, e3, e4, hlt, hrow]
  refine (do_any (o := ops[i].o) (vd := ops[i].v) (hx.in_ (by omega)) hx.kind (by omega) h).mono ?_
  rintro e' w1 ⟨h1, rfl⟩
  rw [← run_take _ hil] at h1
  simp -dsimp -implicitDefEqProofs (disch := omega) only [go_sem, reqD_of, dec_t, dec_f, wrap_i64, wrap_u32, wrap_u64, wrap_u8, hd, e0, e3, e4]
  exact ⟨⟨i + 1, by omega, by omega, h1⟩, by omega⟩
end
end
end Go.Proofs.YtijnmokpihhhcaaDoor

namespace Go.Proofs.YtijnmokpihhhcaaDoor
open Go
set_option linter.unusedVariables false
set_option linter.unusedSimpArgs false
set_option maxRecDepth 100000

def pickF (c : Int) (n : Nat) : Nat := ((if c < 0 then -(c + 1) else c) % n).toNat
theorem pickF_lt {c : Int} {n : Nat} (h : 0 < n) : pickF c n < n := by
  have h1 := Int.emod_nonneg (if c < 0 then -(c + 1) else c) (b := (n : Int)) (by omega)
  have h2 := Int.emod_lt_of_pos (if c < 0 then -(c + 1) else c) (b := (n : Int)) (by omega)
  unfold pickF; omega

/-! ### Letters -/

theorem decL_low {b : UInt8} {l : List UInt8} (h : b.toNat < 128) : decL (b :: l) = (b.toNat, 1) := by
  show Lib.decodeN (l.length + 1) b.toNat _ _ _ = _
  unfold Lib.decodeN
  rw [if_pos h]
theorem good_low {b : UInt8} {l : List UInt8} (h : b.toNat < 128) (h0 : b ≠ 0) : good (b :: l) = good l := by
  rw [good_cons (by simp), decL_low h]
  have : (b.toNat == 0) = false := by simpa using fun e => h0 (UInt8.toNat_inj.1 e)
  have h2 : (b.toNat == 65533) = false := by simp; omega
  simp [this, h2]
def lettersF (i : Nat) : List UInt8 := [UInt8.ofNat (97 + i % 26), UInt8.ofNat (97 + i / 26 % 26), UInt8.ofNat (97 + i / 676 % 26)]
theorem letter_nat {k : Nat} (h : k < 26) : (UInt8.ofNat (97 + k)).toNat = 97 + k := by simp; omega
theorem letter_ne {k : Nat} (h : k < 26) {c : UInt8} (hc : c.toNat < 97) : UInt8.ofNat (97 + k) ≠ c := fun e => by
  have := congrArg UInt8.toNat e
  rw [letter_nat h] at this
  omega
theorem letters_ok (i : Nat) : okName (lettersF i) = true := by
  have h1 : i % 26 < 26 := Nat.mod_lt _ (by decide)
  have h2 : i / 26 % 26 < 26 := Nat.mod_lt _ (by decide)
  have h3 : i / 676 % 26 < 26 := Nat.mod_lt _ (by decide)
  have g : good (lettersF i) = true := by
    unfold lettersF
    rw [good_low (by rw [letter_nat h1]; omega) (letter_ne h1 (by decide)), good_low (by rw [letter_nat h2]; omega) (letter_ne h2 (by decide)), good_low (by rw [letter_nat h3]; omega) (letter_ne h3 (by decide))]
    exact good_nil
  have m : (47 : UInt8) ∉ lettersF i := by
    simp only [lettersF, List.mem_cons, List.not_mem_nil, or_false, not_or]
    exact ⟨fun e => letter_ne h1 (by decide) e.symm, fun e => letter_ne h2 (by decide) e.symm, fun e => letter_ne h3 (by decide) e.symm⟩
  unfold okName
  rw [g]
  have d : dots (lettersF i) = false := by simp [dots, lettersF]
  simp [d, m, show (lettersF i).length = 3 from rfl]
theorem letters_inj {i j : Nat} (hi : i < 17576) (hj : j < 17576) (e : lettersF i = lettersF j) : i = j := by
  simp only [lettersF, List.cons.injEq, and_true] at e
  obtain ⟨a, b, c⟩ := e
  have a := congrArg UInt8.toNat a
  have b := congrArg UInt8.toNat b
  have c := congrArg UInt8.toNat c
  rw [letter_nat (Nat.mod_lt _ (by decide)), letter_nat (Nat.mod_lt _ (by decide))] at a b c
  omega

/-! ### The store, by its paths -/

def kidD (x : Nat × Nat) : NodeD := ⟨⟨x.1, 1, lettersF x.2, 384, ann, staff, ann, 0, 0, 0, 0, 0, 0⟩, []⟩
def pathS (nx : Nat) (P : List (Nat × Nat)) : SD := ⟨40, nx, rootD (storeCfg 40) :: P.map kidD⟩
theorem pathS_nil : storeF 40 = pathS 2 [] := rfl
structure PInv (i nx last : Nat) (P : List (Nat × Nat)) : Prop where
  rise : (P.map (·.1)).Pairwise (· < ·)
  lo : ∀ x ∈ P, 2 ≤ x.1 ∧ x.1 < nx
  ix : ∀ x ∈ P, x.2 < i
  few : P.length ≤ 39
  la : last < nx
  n1 : nx ≤ i + 2
  n2 : 2 ≤ nx
theorem PInv.nil : PInv 0 2 1 [] := ⟨by simp, by simp, by simp, by simp, by decide, by decide, by decide⟩

theorem kid_isKid {x : Nat × Nat} (h : 2 ≤ x.1) (p : Nat) : isKid p (kidD x) = (1 == p) := by
  have : (x.1 == 1) = false := by simp; omega
  show (1 == p && !(x.1 == 1)) = _
  simp [this]
theorem root_isKid (p : Nat) : isKid p (rootD (storeCfg 40)) = false := by
  show (1 == p && !(1 == 1)) = _
  simp
theorem path_kids {nx : Nat} {P : List (Nat × Nat)} (h : ∀ x ∈ P, 2 ≤ x.1) (p : Nat) : kidsF (pathS nx P).L p = if p = 1 then P.map (·.1) else [] := by
  unfold kidsF pathS
  rw [List.filter_cons, root_isKid]
  simp only [Bool.false_eq_true, if_false]
  rw [List.filter_map]
  by_cases hp : p = 1
  · subst hp
    rw [if_pos rfl, List.filter_eq_self.2 fun x hx => by show isKid 1 (kidD x) = true; rw [kid_isKid (h x hx)]; rfl, List.map_map]
    rfl
  · rw [if_neg hp, List.filter_eq_nil_iff.2 fun x hx => by show ¬ isKid p (kidD x) = true; rw [kid_isKid (h x hx)]; simpa using fun e => hp e.symm]
    rfl
theorem path_root (nx : Nat) (P : List (Nat × Nat)) : findN (pathS nx P).L 1 = some (rootD (storeCfg 40)) := rfl
theorem path_find {nx : Nat} {P : List (Nat × Nat)} (h : ∀ x ∈ P, 2 ≤ x.1) (hr : (P.map (·.1)).Pairwise (· < ·)) {x : Nat × Nat} (hx : x ∈ P) : findN (pathS nx P).L x.1 = some (kidD x) := by
  have h1 := h x hx
  show List.find? _ (_ :: _) = _
  rw [List.find?_cons]
  have : ((rootD (storeCfg 40)).i.path == x.1) = false := by show ((1 : Nat) == x.1) = false; simp; omega
  rw [this]
  have hr' : (P.map kidD).Pairwise fun a b => a.i.path < b.i.path := by
    rw [rise_paths, List.map_map]; exact hr
  exact find_of hr' (List.mem_map_of_mem hx)

def dropO (p : Nat) : OpD := ⟨2, p, [], 0, infZ, 0, [], 0⟩
theorem dropO_in (p : Nat) : OpIn (dropO p) :=
  ⟨⟨by show (0 : Nat) < _; decide, by show (0 : Nat) < _; decide, by show (0 : Nat) < _; decide⟩, by show (0 : Nat) < _; decide, by show (0 : Nat) < _; decide, by show _ ≤ (0 : Int); decide, by show (0 : Int) ≤ _; decide, by show (0 : Nat) ≤ _; decide, by show (0 : Nat) ≤ _; decide, by show (0 : Nat) ≤ _; decide, by show (0 : Nat) ≤ _; decide, by show (0 : Nat) ≤ _; decide, by show (0 : Nat) ≤ _; decide⟩

theorem path_drop {nx : Nat} {P : List (Nat × Nat)} (h : ∀ x ∈ P, 2 ≤ x.1) (hr : (P.map (·.1)).Pairwise (· < ·)) {k : Nat} (hk : k < P.length) :
    doF (pathS nx P) (dropO P[k].1) = (pathS nx (P.eraseIdx k), P[k].1, 0) := by
  have hx : P[k] ∈ P := List.getElem_mem hk
  have h2 := h _ hx
  unfold doF
  rw [if_neg (by show ¬ (2 < 1 ∨ 7 < 2); decide)]
  have hf : findN (pathS nx P).L (dropO P[k].1).path = some (kidD P[k]) := path_find h hr hx
  rw [hf]
  show (if (2 : Nat) = 1 then _ else if (2 : Nat) = 2 then delF (pathS nx P) (kidD P[k]) else _) = _
  rw [if_neg (by decide), if_pos rfl]
  unfold delF
  have hp : (kidD P[k]).i.path = P[k].1 := rfl
  rw [hp, if_neg (show ¬ P[k].1 = 1 by omega), path_kids h, if_neg (show ¬ P[k].1 = 1 by omega), if_neg (by simp)]
  refine Prod.ext ?_ rfl
  show SD.mk 40 nx (dropN (pathS nx P).L P[k].1) = pathS nx (P.eraseIdx k)
  unfold pathS dropN
  rw [List.filter_cons, if_pos (by show (!((1 : Nat) == P[k].1)) = true; simp; omega), List.filter_map]
  have : P.filter ((fun n => !(n.i.path == P[k].1)) ∘ kidD) = P.eraseIdx k := by
    clear hf h
    induction P generalizing k with
    | nil => simp at hk
    | cons y P ih =>
      rw [List.map_cons, List.pairwise_cons] at hr
      cases k with
      | zero =>
        simp only [List.eraseIdx_zero, List.tail_cons, List.getElem_cons_zero, List.filter_cons, Function.comp]
        rw [if_neg (by simp [kidD]), List.filter_eq_self.2]
        intro x hx
        have := hr.1 x.1 (List.mem_map_of_mem hx)
        simp [kidD]; omega
      | succ k =>
        have hk' : k < P.length := by simpa using hk
        simp only [List.eraseIdx_cons_succ, List.getElem_cons_succ, List.filter_cons]
        have h3 := hr.1 P[k].1 (List.mem_map_of_mem (List.getElem_mem hk'))
        rw [if_pos (by simp [kidD]; omega)]
        simp only [List.getElem_cons_succ] at h2 hx hp
        rw [ih hr.2 hk' (List.getElem_mem hk') h2 rfl]
  rw [this]

theorem path_make {i nx last : Nat} {P : List (Nat × Nat)} (h : PInv i nx last P) (hi : i < 2000) (hl : P.length < 39) :
    doF (pathS nx P) (makF 1 (lettersF i) 384) = (pathS (nx + 1) (P ++ [(nx, i)]), nx, 0) := by
  unfold doF
  rw [if_neg (by show ¬ (1 < 1 ∨ 7 < 1); decide)]
  have hf : findN (pathS nx P).L (makF 1 (lettersF i) 384).path = some (rootD (storeCfg 40)) := path_root nx P
  rw [hf]
  show (if (1 : Nat) = 1 then makeF (pathS nx P) (rootD (storeCfg 40)) (makF 1 (lettersF i) 384).node else _) = _
  rw [if_pos rfl]
  unfold makeF
  have e1 : dirF (rootD (storeCfg 40)).i.mode = true := by decide
  have e2 : modeF (makF 1 (lettersF i) 384).node.mode = true := by show modeF 384 = true; decide
  have e3 : userF (makF 1 (lettersF i) 384).node.uid = true := by show userF ann = true; decide
  have e4 : userF (makF 1 (lettersF i) 384).node.gid = true := by show userF staff = true; decide
  have e5 : userF (makF 1 (lettersF i) 384).node.muid = true := by show userF ann = true; decide
  have e6 : okName (makF 1 (lettersF i) 384).node.name = true := letters_ok i
  have e7 : childF (pathS nx P).L (rootD (storeCfg 40)).i.path (makF 1 (lettersF i) 384).node.name = none := by
    unfold childF
    rw [Option.map_eq_none_iff, List.find?_eq_none]
    intro n hn
    simp only [pathS, List.mem_cons, List.mem_map] at hn
    rcases hn with rfl | ⟨x, hx, rfl⟩
    · rw [root_isKid]; simp
    · have hxi := h.ix x hx
      have : (kidD x).i.name ≠ lettersF i := fun e => by
        have := letters_inj (i := x.2) (j := i) (by omega) (by omega) e
        omega
      show ¬ (_ && (kidD x).i.name == lettersF i) = true
      simp [this]
  have e8 : ¬ (pathS nx P).most ≤ (pathS nx P).L.length := by
    show ¬ 40 ≤ (_ :: P.map kidD).length
    simp; omega
  rw [e1, e2, e3, e4, e5, e6, e7]
  simp only [Bool.not_true, Bool.and_self, Bool.false_eq_true, if_false, Option.isSome_none]
  rw [if_neg e8]
  refine Prod.ext ?_ rfl
  show SD.mk 40 (nx + 1) ((rootD (storeCfg 40) :: P.map kidD) ++ [_]) = SD.mk 40 (nx + 1) (rootD (storeCfg 40) :: (P ++ [(nx, i)]).map kidD)
  rw [List.map_append]
  rfl

theorem PInv.drop {i nx last : Nat} {P : List (Nat × Nat)} (h : PInv i nx last P) {k : Nat} (hk : k < P.length) : PInv (i + 1) nx last (P.eraseIdx k) := by
  have hs : (P.eraseIdx k).Sublist P := List.eraseIdx_sublist ..
  exact ⟨h.rise.sublist (hs.map _), fun x hx => h.lo x (hs.subset hx), fun x hx => by have := h.ix x (hs.subset hx); omega, Nat.le_trans hs.length_le h.few, h.la, by have := h.n1; omega, h.n2⟩
theorem PInv.make {i nx last : Nat} {P : List (Nat × Nat)} (h : PInv i nx last P) (hl : P.length < 39) : PInv (i + 1) (nx + 1) nx (P ++ [(nx, i)]) := by
  refine ⟨?_, fun x hx => ?_, fun x hx => ?_, by simp; omega, by omega, by have := h.n1; omega, by have := h.n2; omega⟩
  · rw [List.map_append, List.pairwise_append]
    refine ⟨h.rise, by simp, fun a ha b hb => ?_⟩
    simp only [List.map_cons, List.map_nil, List.mem_singleton] at hb
    subst hb
    obtain ⟨x, hx, rfl⟩ := List.mem_map.1 ha
    exact (h.lo x hx).2
  · rcases List.mem_append.1 hx with hx | hx
    · have := h.lo x hx; omega
    · simp only [List.mem_singleton] at hx; subst hx; exact ⟨h.n2, by show nx < nx + 1; omega⟩
  · rcases List.mem_append.1 hx with hx | hx
    · have := h.ix x hx; omega
    · simp only [List.mem_singleton] at hx; subst hx; show i < i + 1; omega

/-- The child behind the first so many. -/
theorem rise_find {l : List Nat} (hl : l.Pairwise (· < ·)) {j : Nat} {at_ : Nat} (hj : ∀ k (hk : k < l.length), k < j → l[k] ≤ at_) (hb : ∀ k (hk : k < l.length), j ≤ k → at_ < l[k]) : l.find? (fun k => decide (at_ < k)) = l[j]? := by
  induction l generalizing j with
  | nil => rfl
  | cons y l ih =>
    rw [List.pairwise_cons] at hl
    cases j with
    | zero =>
      have := hb 0 (by simp) (Nat.le_refl _)
      rw [List.find?_cons]
      simp only [List.getElem_cons_zero] at this
      simp [this]
    | succ j =>
      have h0 := hj 0 (by simp) (by omega)
      simp only [List.getElem_cons_zero] at h0
      rw [List.find?_cons]
      have : decide (at_ < y) = false := by simp; omega
      rw [this]
      simp only [List.getElem?_cons_succ]
      refine ih hl.2 (fun k hk hkj => ?_) fun k hk hkj => ?_
      · have := hj (k + 1) (by simpa using hk) (by omega); simpa using this
      · have := hb (k + 1) (by simpa using hk) (by omega); simpa using this
theorem path_after {i nx last : Nat} {P : List (Nat × Nat)} (h : PInv i nx last P) (j : Nat) (hj : j ≤ P.length) :
    afterS (pathS nx P) 1 (if hk : 0 < j then (P[j - 1]'(by omega)).1 else 0) = (P.map (·.1))[j]? := by
  have h2 : ∀ x ∈ P, 2 ≤ x.1 := fun x hx => (h.lo x hx).1
  have hr := h.rise
  unfold afterS
  rw [path_root]
  show afterF (pathS nx P).L 1 _ = _
  unfold afterF
  rw [path_kids h2, if_pos rfl]
  rw [List.pairwise_iff_getElem] at hr
  refine rise_find h.rise (fun k hk hkj => ?_) fun k hk hkj => ?_
  · simp only [List.length_map] at hk
    rw [dif_pos (by omega)]
    rcases Nat.lt_or_ge k (j - 1) with hlt | hge
    · have := hr k (j - 1) (by simpa using hk) (by simp; omega) hlt
      simp only [List.getElem_map] at this ⊢
      omega
    · have : k = j - 1 := by omega
      subst this
      simp
  · simp only [List.length_map] at hk
    by_cases h0 : 0 < j
    · rw [dif_pos h0]
      have := hr (j - 1) k (by simp; omega) (by simpa using hk) (by omega)
      simpa using this
    · rw [dif_neg h0]
      have := h2 P[k] (List.getElem_mem hk)
      simp only [List.getElem_map]
      omega
end Go.Proofs.YtijnmokpihhhcaaDoor

namespace Go.Proofs.YtijnmokpihhhcaaDoor
open Go

/-- What the loop's own code promises of one round; A: what its variables take. -/
def RoundOkA {α : Type} (P : Program) (w0 : World) (e : FA) (ps : Array Tmp) (asg body : Cd) (Pass : α → Array Value → HP) (Ok : List α → Prop) (J : List α → HP) (X : Code → List α → HP) : Prop :=
  ∀ (l : Nat) (pre : List α) (x : α) (args : Array Value) (G : HP) (W : World), Ok (pre ++ [x]) → St w0 (J pre * (Pass x args * G)) W →
    args.size = ps.size ∧ cwRE P l asg (onlyP fun e1 W1 => ∃ A : HP, St w0 (A * (J pre * (Pass x args * G))) W1 ∧
      ∀ (G2 : HP) (W2 : World), Ent G2 (LoopHere l) → St w0 (A * (J pre * (Pass x args * G2))) W2 → cwRE P l body (roundQ w0 (J (pre ++ [x]) * G2) fun c => X c (pre ++ [x]) * G2) e1 W2) (putArgs ps.toList args.toList { e with ds := [] }) W

theorem mk_yieldsA {α : Type} {P : Program} {w0 : World} {e : FA} {ps : Array Tmp} {asg body : Cd} {Pass : α → Array Value → HP} {Ok : List α → Prop} {J : List α → HP} {X : Code → List α → HP} {l : Nat} {Rec : LoopState → Option Code → Obj} {Dp : HP}
    (hro : RoundOkA P w0 e ps asg body Pass Ok J X)
    (hrec : LoopRec P l Rec fun args W R => args.size = ps.size ∧ cw P (some l) asg (onlyP fun e1 W1 => W1.heap[l]? = some (Rec .ready none) ∧
      cw P (some l) body (roundP l Rec R) e1 (W1.putObj l (Rec .busy none))) (putArgs ps.toList args.toList { e with ds := [] }) W) :
    YieldsTo P w0 l Pass Ok (fun pre => Blk l (Rec .ready none) * (Dp * J pre)) (fun pre => HP.ex fun c => Blk l (Rec .done (some c)) * (Dp * X c pre)) := by
  intro G pre x args w hok h
  simp only at h ⊢
  refine hrec.yield args w _ h.left.blk ?_
  have h1 : St w0 (J pre * (Pass x args * (Blk l (Rec .ready none) * (Dp * G)))) w := h.ac (by ac_rfl)
  obtain ⟨hsz, hcode⟩ := hro l pre x args _ w hok h1
  refine ⟨hsz, ?_⟩
  refine cw_of_cwD _ _ _ _ _ _ (fun ex e1 W1 hx => ?_) hcode
  cases ex with
  | normal =>
    obtain ⟨A, h2, hb⟩ := hx
    have h3 : St w0 (Blk l (Rec .ready none) * (A * (J pre * (Pass x args * (Dp * G))))) W1 := h2.ac (by ac_rfl)
    refine ⟨h3.blk, ?_⟩
    have h4 := h3.putObj (Rec .busy none)
    have h5 : St w0 (A * (J pre * (Pass x args * (Blk l (Rec .busy none) * (Dp * G))))) (W1.putObj l (Rec .busy none)) := h4.ac (by ac_rfl)
    have hl : Ent (Blk l (Rec .busy none) * (Dp * G)) (LoopHere l) := (Ent.left _ _).trans (Ent.of fun h hb => by
      obtain ⟨r, hr⟩ := hrec.isLoop .busy none
      exact ⟨r, by rw [← hr]; exact hb⟩)
    refine cw_of_cwD _ _ _ _ _ _ (fun ex e2 W2 hx => ?_) (hb _ _ hl h5)
    have stop : ∀ c, St w0 (X c (pre ++ [x]) * (Blk l (Rec .busy none) * (Dp * G))) W2 → W2.heap[l]? = some (Rec .busy none) ∧
        ((Ending.returned (.bool false) = .returned (.bool true) ∧ St w0 ((Blk l (Rec .ready none) * (Dp * J (pre ++ [x]))) * G) (W2.putObj l (Rec .done (some c)))) ∨
          (Ending.returned (.bool false) = .returned (.bool false) ∧ St w0 ((HP.ex fun c => Blk l (Rec .done (some c)) * (Dp * X c (pre ++ [x]))) * G) (W2.putObj l (Rec .done (some c))))) := fun c hx => by
      have h6 : St w0 (Blk l (Rec .busy none) * (Dp * X c (pre ++ [x]) * G)) W2 := hx.ac (by ac_rfl)
      refine ⟨h6.blk, .inr ⟨rfl, ?_⟩⟩
      have h7 := h6.putObj (Rec .done (some c))
      exact (h7.ac (by ac_rfl : _ = (Blk l (Rec .done (some c)) * (Dp * X c (pre ++ [x]))) * G)).ent (Ent.sep (Ent.ex (fun c => Blk l (Rec .done (some c)) * (Dp * X c (pre ++ [x]))) c) (Ent.rfl' _))
    cases ex with
    | normal =>
      have h6 : St w0 (Blk l (Rec .busy none) * (Dp * J (pre ++ [x]) * G)) W2 := St.ac hx (by ac_rfl)
      refine ⟨h6.blk, .inl ⟨rfl, ?_⟩⟩
      exact (h6.putObj (Rec .ready none)).ac (by ac_rfl)
    | ret => exact stop _ hx
    | exit i => exact stop _ hx
    | goto t => exact stop _ hx
    | panic c => exact hx.elim
    | outgrown => exact hx.elim
  | exit i => exact hx.elim
  | goto t => exact hx.elim
  | ret => exact hx.elim
  | panic c => exact hx.elim
  | outgrown => exact hx.elim

theorem range_introA {α : Type} {P : Program} {w0 w : World} {F G G' : HP} {e : FA} {g : Operand} {ps : Array Tmp} {asg body : Cd} {Q : Post} {θ : Tag ((.rangeFunc g ps asg body : Cd), Q, e, w)} (h : St w0 F w) {gf : Nat} {lb : Array Value}
    (hg : e.ev g = .func (.func gf) #[] lb) (hf : fnOk P gf = true) {Pass : α → Array Value → HP} {Ok S : List α → Prop} (J : List α → HP) (X : Code → List α → HP) (h0 : Ent F (J [] * G))
    (hround : RoundOkA P w0 e ps asg body Pass Ok J X) (hcall : IterOk P w0 gf lb Pass Ok S G G')
    (hdone : ∀ (D : Nat) (xs : List α) (w' : World), S xs → St w0 (Blk D (.deferred (some [])) * (J xs * G')) w' → Q .normal { e with ds := { target := .collected D, args := #[] } :: e.ds } w')
    (hstop : ∀ (D : Nat) (c : Code) (pre : List α) (w' : World), St w0 (Blk D (.deferred (some [])) * (X c pre * G')) w' → jumpP Q (some c) { e with ds := { target := .collected D, args := #[] } :: e.ds } w') :
    cwE P (.rangeFunc g ps asg body) Q e w θ := by
  refine ⟨fun l h => (by cases h), gf, lb, hg, hf, fun Rec hrec => ?_⟩
  have h1 := (h.ent h0).alloc (.deferred (some []))
  have h2 := h1.alloc (Rec .ready none)
  have hs : (w.alloc (.deferred (some []))).heap.size = w.heap.size + 1 := World.size_alloc _ _
  rw [hs] at h2
  have hy := mk_yieldsA (Dp := Blk w.heap.size (.deferred (some []))) hround hrec
  refine (hcall _ _ _ _ hy (h2.ac ?_)).mono ?_
  · simp only [loopAt]; ac_rfl
  · rintro ex W ⟨⟨v, rfl⟩, hq⟩
    rcases hq with ⟨xs, hS, hq⟩ | ⟨pre, hq⟩
    · have h3 : St w0 (Blk (w.heap.size + 1) (Rec .ready none) * (Blk w.heap.size (.deferred (some [])) * (J xs * G'))) W := hq.ac (by simp only [loopAt]; ac_rfl)
      exact ⟨.ready, none, h3.blk, by simp, hdone _ xs _ hS (h3.putObj (Rec .exhausted none)).right⟩
    · have hq := hq
      obtain ⟨c, hq⟩ := St.exF hq
      have h3 : St w0 (Blk (w.heap.size + 1) (Rec .done (some c)) * (Blk w.heap.size (.deferred (some [])) * (X c pre * G'))) W := hq.ac (by simp only [loopAt]; ac_rfl)
      exact ⟨.done, some c, h3.blk, by simp, hstop _ c pre _ (h3.putObj (Rec .exhausted (some c))).right⟩

/-- .. in a round of another loop. -/
theorem range_introRA {α : Type} {P : Program} {w0 w : World} {F G G' : HP} {e : FA} {l0 : Nat} {g : Operand} {ps : Array Tmp} {asg body : Cd} {Q : Post} {θ : Tag ((.rangeFunc g ps asg body : Cd), Q, e, w)} (h : St w0 F w) (hl0 : Ent F (LoopHere l0)) {gf : Nat} {lb : Array Value}
    (hg : e.ev g = .func (.func gf) #[] lb) (hf : fnOk P gf = true) {Pass : α → Array Value → HP} {Ok S : List α → Prop} (J : List α → HP) (X : Code → List α → HP) (h0 : Ent F (J [] * G))
    (hround : RoundOkA P w0 e ps asg body Pass Ok J X) (hcall : IterOk P w0 gf lb Pass Ok S G G')
    (hdone : ∀ (xs : List α) (w' : World), S xs → St w0 (J xs * G') w' → Q .normal e w')
    (hstop : ∀ (c : Code) (pre : List α) (w' : World), St w0 (X c pre * G') w' → jumpP Q (some c) e w') :
    cwRE P l0 (.rangeFunc g ps asg body) Q e w θ := by
  refine ⟨fun l hl => ?_, gf, lb, hg, hf, fun Rec hrec => ?_⟩
  · simp only [Option.some.injEq] at hl
    subst hl
    obtain ⟨y, ly, r, hr⟩ := (h.ent hl0).sat
    exact ⟨r, ly _ _ hr⟩
  have h2 := (h.ent h0).alloc (Rec .ready none)
  have hy := mk_yieldsA (Dp := EmpH) hround hrec
  have hE : ∀ (A : HP), Ent A (EmpH * A) := fun A => Ent.of fun h a => ⟨fun _ => none, h, fun _ => .inl rfl, (fun _ _ e => by cases e), hle.rfl' h, trivial, a⟩
  refine (hcall _ _ _ _ hy ((h2.ent (Ent.sep (Ent.rfl' _) (hE _))).ac ?_)).mono ?_
  · simp only [loopAt]; ac_rfl
  · rintro ex W ⟨⟨v, rfl⟩, hq⟩
    have hds : ∀ e : FA, ({ e with ds := (loopAt (some l0) w Rec).2.2 ++ e.ds } : FA) = e := fun e => rfl
    rcases hq with ⟨xs, hS, hq⟩ | ⟨pre, hq⟩
    · have h3 : St w0 (Blk w.heap.size (Rec .ready none) * (EmpH * (J xs * G'))) W := hq.ac (by simp only [loopAt]; ac_rfl)
      refine ⟨.ready, none, h3.blk, by simp, ?_⟩
      rw [hds]
      exact hdone xs _ hS (h3.putObj (Rec .exhausted none)).right.right
    · have hq := hq
      obtain ⟨c, hq⟩ := St.exF hq
      have h3 : St w0 (Blk w.heap.size (Rec .done (some c)) * (EmpH * (X c pre * G'))) W := hq.ac (by simp only [loopAt]; ac_rfl)
      refine ⟨.done, some c, h3.blk, by simp, ?_⟩
      rw [hds]
      exact hstop c pre _ (h3.putObj (Rec .exhausted (some c))).right.right

end Go.Proofs.YtijnmokpihhhcaaDoor

namespace Go.Proofs.YtijnmokpihhhcaaDoor
open Go
set_option linter.unusedVariables false
set_option linter.unusedSimpArgs false
set_option maxRecDepth 100000

/-! ### The plain law -/

/-- What is told of all nodes. -/
def tellL (s : SD) : List Inf := s.L.map (tellF s.L)
theorem tell_len (s : SD) : (tellL s).length = s.L.length := by simp [tellL]
theorem least_at {s : SD} (h : Wf s) {j last : Nat} (hj : ∀ k (hk : k < s.L.length), k < j → s.L[k].i.path ≤ last) (hb : ∀ k (hk : k < s.L.length), j ≤ k → last < s.L[k].i.path) :
    leastV s last = .tuple #[.agg (infL ((tellL s).getD j infZ)).toArray, .bool (decide (j < s.L.length))] := by
  have hf : leastS s last = (s.L.map (·.i.path))[j]? := by
    unfold leastS
    refine rise_find (rise_paths.1 h.rise) (fun k hk hkj => ?_) fun k hk hkj => ?_
    · rw [List.length_map] at hk; simp only [List.getElem_map]; exact hj k hk hkj
    · rw [List.length_map] at hk; simp only [List.getElem_map]; exact hb k hk hkj
  unfold leastV
  rw [hf]
  by_cases hlt : j < s.L.length
  · have e1 : (s.L.map (·.i.path))[j]? = some s.L[j].i.path := by simp [hlt]
    have e2 := find_of h.rise (List.getElem_mem hlt)
    rw [e1]
    simp only [toldV, toldI_some e2, e2, Option.isSome_some]
    have e3 : (tellL s).getD j infZ = tellF s.L s.L[j] := by simp [tellL, List.getD_eq_getElem?_getD, hlt]
    rw [e3, decide_eq_true hlt]
  · have e1 : (s.L.map (·.i.path))[j]? = none := List.getElem?_eq_none (by simpa using Nat.le_of_not_lt hlt)
    rw [e1]
    have e3 : (tellL s).getD j infZ = infZ := by
      rw [List.getD_eq_getElem?_getD, List.getElem?_eq_none (by rw [tell_len]; omega)]; rfl
    rw [e3, decide_eq_false hlt]
theorem least_0 {s : SD} (h : Wf s) : leastV s 0 = .tuple #[.agg (infL ((tellL s).getD 0 infZ)).toArray, .bool (decide (0 < s.L.length))] :=
  least_at h (fun k hk hkj => absurd hkj (by omega)) fun k hk _ => (h.below _ (List.getElem_mem hk)).1
theorem least_s {s : SD} (h : Wf s) {i : Nat} (hi : i < s.L.length) : leastV s ((tellL s).getD i infZ).path = .tuple #[.agg (infL ((tellL s).getD (i + 1) infZ)).toArray, .bool (decide (i + 1 < s.L.length))] := by
  have e3 : ((tellL s).getD i infZ).path = s.L[i].i.path := by simp [tellL, List.getD_eq_getElem?_getD, hi, tellF]
  rw [e3]
  have hr := List.pairwise_iff_getElem.1 h.rise
  refine least_at h (fun k hk hkj => ?_) fun k hk hkj => hr i k hi hk (by omega)
  rcases Nat.lt_or_ge k i with hlt | hge
  · exact Nat.le_of_lt (hr k i hk hi hlt)
  · have : k = i := by omega
    subst this; exact Nat.le_refl _

/-! ### One by one -/

abbrev ptrS (K b : Nat) : HP := Blk K (.cells #[.pointer (some ⟨b, 0, none⟩)] 34 (0, 0))
def PassI (x : Inf) (args : Array Value) : HP := HP.fact (args = #[.agg (infL x).toArray]) EmpH
theorem PassI.open {w0 w : World} {x : Inf} {args : Array Value} {F : HP} (h : St w0 (PassI x args * F) w) : args = #[.agg (infL x).toArray] ∧ St w0 F w := by
  obtain ⟨e, h2⟩ := h.factF
  exact ⟨e, h2.right⟩
theorem PassI.mk {w0 w : World} {F : HP} (x : Inf) (h : St w0 F w) : St w0 (PassI x #[.agg (infL x).toArray] * F) w :=
  (h.ent (Ent.embL F)).ent (Ent.sep (Ent.fact (p := (#[.agg (infL x).toArray] : Array Value) = #[.agg (infL x).toArray]) rfl _) (Ent.rfl' _))

section
variable {w0 w : World} {A : HP}

theorem all_any {b : Nat} (h : St w0 A w) :
    Calls Tryd.prog 49 #[.pointer (some ⟨b, 0, none⟩)] w fun e w' => ∃ K, St w0 (ptrS K b * A) w' ∧ e = .returned (.func (.func 72) #[] #[.pointer (some ⟨K, 0, none⟩)]) := by
  refine F49.calls (by simp) ?_
  unfold F49.code
  simp -dsimp -implicitDefEqProofs (disch := omega) only [go_sem, reqD_of, dec_t, dec_f, wrap_i64, wrap_u32, wrap_u64, wrap_u8]
  refine h.new fun K w1 h1 => ?_
  simp -dsimp -implicitDefEqProofs (disch := omega) only [go_sem, reqD_of, dec_t, dec_f, wrap_i64, wrap_u32, wrap_u64, wrap_u8]
  exact ⟨K, h1, rfl⟩

/-- What is so at each turn: so many rounds are left. -/
def AllI (w0 : World) (s : SD) (b K q : Nat) (J : List Inf → HP) (R : HP) (m : Nat) (e : FA) (w' : World) : Prop :=
  e.ds = [] ∧ e.ρ 0 = .func (.yield q) #[] #[] ∧ e.ρ 1 = .pointer (some ⟨K, 0, none⟩) ∧ ∃ i P : Nat, i ≤ s.L.length ∧ m = s.L.length - i ∧ e.ρ 4 = .bool (decide (i < s.L.length)) ∧ e.ρ 3 = .pointer (some ⟨P, 0, none⟩) ∧
      St w0 (Blk P (.cells (infL ((tellL s).getD i infZ)).toArray 41 (0, 0)) * (StoreP b 0 0 s * (ptrS K b * (J ((tellL s).take i) * R)))) w'
section
attribute [local go_sem] F72.t3_eq
theorem allIter {K b : Nat} {s : SD} {R : HP} (hs : Wf s) :
    IterOk Tryd.prog w0 72 #[.pointer (some ⟨K, 0, none⟩)] PassI (fun pre => ∃ post, pre ++ post = tellL s) (fun xs => xs = tellL s) (StoreP b 0 0 s * (ptrS K b * R)) (StoreP b 0 0 s * (ptrS K b * R)) := by
  intro q w1 J X hy h
  show Calls _ 72 #[.func (.yield q) #[] #[], .pointer (some ⟨K, 0, none⟩)] w1 _
  have hlen := tell_len s
  have hmost := hs.few
  have hm2 := hs.most
  refine F72.calls (by simp) ?_
  unfold F72.code
  have h1 : St w0 (StoreP b 0 0 s * (ptrS K b * (J [] * R))) w1 := h.ac (by ac_rfl)
  simp -dsimp -implicitDefEqProofs (disch := omega) only [go_sem, reqD_of, dec_t, dec_f, wrap_i64, wrap_u32, wrap_u64, wrap_u8, h1.right.cl K]
  refine (least_any (last := 0) h1).mono ?_
  rintro e w2 ⟨h2, rfl⟩
  rw [least_0 hs]
  simp -dsimp -implicitDefEqProofs (disch := omega) only [go_sem, reqD_of, dec_t, dec_f, wrap_i64, wrap_u32, wrap_u64, wrap_u8]
  refine h2.new fun P w3 h3 => ?_
  simp -dsimp -implicitDefEqProofs (disch := omega) only [go_sem, reqD_of, dec_t, dec_f, wrap_i64, wrap_u32, wrap_u64, wrap_u8]
  refine h3.stoAll (b := P) (cs := infL ((tellL s).getD 0 infZ)) rfl rfl (infL_cells _) fun w4 h4 => ?_
  simp -dsimp -implicitDefEqProofs (disch := omega) only [go_sem, reqD_of, dec_t, dec_f, wrap_i64, wrap_u32, wrap_u64, wrap_u8]
  refine loop_rank (AllI w0 s b K q J R) s.L.length ?_ ?_
  · exact ⟨by simp -dsimp -implicitDefEqProofs only [go_sem], by simp -dsimp -implicitDefEqProofs only [go_sem], by simp -dsimp -implicitDefEqProofs only [go_sem], 0, P, by omega, rfl, by simp -dsimp -implicitDefEqProofs only [go_sem], by simp -dsimp -implicitDefEqProofs only [go_sem], h4⟩
  clear h h1 h2 h3 h4
  rintro e w ⟨hd, e0, e1, i, P, hi, hm, e4, e3, h⟩
  by_cases hlt : i < s.L.length
  case neg =>
    have hd4 : decide (i < s.L.length) = false := decide_eq_false hlt
    rw [hd4] at e4
    rw [List.take_of_length_le (by omega)] at h
    simp -dsimp -implicitDefEqProofs (disch := omega) only [go_sem, reqD_of, dec_t, dec_f, wrap_i64, wrap_u32, wrap_u64, wrap_u8, hd, e0, e1, e3, e4]
    exact ⟨⟨_, rfl⟩, .inl ⟨_, rfl, h.right.ac (by ac_rfl)⟩⟩
  have hd4 : decide (i < s.L.length) = true := decide_eq_true hlt
  rw [hd4] at e4
  obtain ⟨x, hx⟩ : ∃ x, x = (tellL s).getD i infZ := ⟨_, rfl⟩
  have hten : (tellL s).take (i + 1) = (tellL s).take i ++ [x] := by
    rw [List.take_succ_eq_append_getElem (by omega), hx, List.getD_eq_getElem?_getD, List.getElem?_eq_getElem (by omega)]; rfl
  have hpost : ∃ post, ((tellL s).take i ++ [x]) ++ post = tellL s := ⟨(tellL s).drop (i + 1), by rw [← hten, List.take_append_drop]⟩
  have hls := least_s hs hlt
  rw [← hx] at hls h
  have hxL : ∀ {w : World} {F : HP}, St w0 (Blk P (.cells (infL x).toArray 41 (0, 0)) * F) w → w.cell? ⟨P, 0, none⟩ = some (.int .u64 x.path) := fun h => h.cells 0
  simp -dsimp -implicitDefEqProofs (disch := omega) only [go_sem, reqD_of, dec_t, dec_f, wrap_i64, wrap_u32, wrap_u64, wrap_u8, hd, e0, e1, e3, e4, h.rowH P 13 rfl]
  have h5 : St w0 (J ((tellL s).take i) * (PassI x #[.agg (infL x).toArray] * (Blk P (.cells (infL x).toArray 41 (0, 0)) * (StoreP b 0 0 s * (ptrS K b * R))))) w := (PassI.mk x h).ac (by ac_rfl)
  refine (hy _ _ x _ _ hpost h5).mono ?_
  rintro e' w7 (⟨rfl, h6⟩ | ⟨rfl, h6⟩)
  · rw [← hten] at h6
    have h7 := h6.ac (show _ = Blk P (.cells (infL x).toArray 41 (0, 0)) * (StoreP b 0 0 s * (ptrS K b * (J ((tellL s).take (i + 1)) * R))) by ac_rfl)
    simp -dsimp -implicitDefEqProofs (disch := omega) only [go_sem, reqD_of, dec_t, dec_f, wrap_i64, wrap_u32, wrap_u64, wrap_u8, hd, e0, e1, e3, e4, h7.rowH P 13 rfl]
    refine h7.right.new fun P' w8 h8 => ?_
    simp -dsimp -implicitDefEqProofs (disch := omega) only [go_sem, reqD_of, dec_t, dec_f, wrap_i64, wrap_u32, wrap_u64, wrap_u8, hd, e0, e1, e3, e4]
    refine h8.stoAll (b := P') (cs := infL x) rfl rfl (infL_cells _) fun w9 h9 => ?_
    simp -dsimp -implicitDefEqProofs (disch := omega) only [go_sem, reqD_of, dec_t, dec_f, wrap_i64, wrap_u32, wrap_u64, wrap_u8, hd, e0, e1, e3, e4, h9.right.right.cl K, h9.cells]
    refine (least_any (last := x.path) (h9.sw2)).mono ?_
    rintro e' w10 ⟨h10, rfl⟩
    rw [hls]
    simp -dsimp -implicitDefEqProofs (disch := omega) only [go_sem, reqD_of, dec_t, dec_f, wrap_i64, wrap_u32, wrap_u64, wrap_u8, hd, e0, e1, e3, e4]
    refine (h10.sw2).stoAll (b := P') (cs := infL ((tellL s).getD (i + 1) infZ)) rfl rfl (infL_cells _) fun w11 h11 => ?_
    simp -dsimp -implicitDefEqProofs (disch := omega) only [go_sem, reqD_of, dec_t, dec_f, wrap_i64, wrap_u32, wrap_u64, wrap_u8, hd, e0, e1, e3, e4]
    refine rank_down (m := s.L.length - (i + 1)) ⟨by simp -dsimp -implicitDefEqProofs only [go_sem, hd], by simp -dsimp -implicitDefEqProofs only [go_sem, e0], by simp -dsimp -implicitDefEqProofs only [go_sem, e1], i + 1, P', by omega, rfl, by simp -dsimp -implicitDefEqProofs only [go_sem], by simp -dsimp -implicitDefEqProofs only [go_sem], h11⟩ (by omega)
  · simp -dsimp -implicitDefEqProofs (disch := omega) only [go_sem, reqD_of, dec_t, dec_f, wrap_i64, wrap_u32, wrap_u64, wrap_u8, hd, e0, e1, e3, e4]
    exact ⟨⟨_, rfl⟩, .inr ⟨_, h6.sw2.right⟩⟩
end
end
end Go.Proofs.YtijnmokpihhhcaaDoor

namespace Go.Proofs.YtijnmokpihhhcaaDoor
open Go
set_option linter.unusedVariables false
set_option linter.unusedSimpArgs false
set_option maxRecDepth 100000

abbrev NodeL (v : Value) (l : List Inf) : HP := RowO 41 13 v l.length (l.flatMap infL)
theorem rowTy_node : rowTy Tryd.prog 69 = some (41, 13, 128, infL infZ) := by kernel_rfl
theorem infL_all (l : List Inf) : ∀ v ∈ l.flatMap infL, isCell v = true := by
  intro v hv
  obtain ⟨x, _, hx⟩ := List.mem_flatMap.1 hv
  exact infL_cells x v hx
/-- The list so far, in its variable. -/
def ListJ (S : Nat) (l : List Inf) : HP := HP.ex fun v => Blk S (.cells #[v] 69 (0, 0)) * NodeL v l
theorem ListJ.open {w0 w : World} {S : Nat} {l : List Inf} {F : HP} (h : St w0 (ListJ S l * F) w) : ∃ v, St w0 (Blk S (.cells #[v] 69 (0, 0)) * (NodeL v l * F)) w := by
  obtain ⟨v, h1⟩ := h.exF
  exact ⟨v, h1.ac (by ac_rfl)⟩
theorem ListJ.mk {S : Nat} {l : List Inf} (v : Value) : Ent (Blk S (.cells #[v] 69 (0, 0)) * NodeL v l) (ListJ S l) := Ent.ex (fun v => Blk S (.cells #[v] 69 (0, 0)) * NodeL v l) v

section
variable {w0 w : World} {A : HP}
section
attribute [local go_sem] F26.t8_eq F26.t5_eq
theorem list_any {b : Nat} {s : SD} (hs : Wf s) (h : St w0 (StoreP b 0 0 s * A) w) :
    Calls Tryd.prog 26 #[.pointer (some ⟨b, 0, none⟩)] w fun e w' => ∃ v, St w0 (NodeL v (tellL s) * (StoreP b 0 0 s * A)) w' ∧ e = .returned v := by
  have hlen := tell_len s
  have hmost := hs.few
  have hm2 := hs.most
  refine F26.calls (by simp) ?_
  unfold F26.code
  simp -dsimp -implicitDefEqProofs (disch := omega) only [go_sem, reqD_of, dec_t, dec_f, wrap_i64, wrap_u32, wrap_u64, wrap_u8]
  refine h.new fun S w1 h1 => ?_
  simp -dsimp -implicitDefEqProofs (disch := omega) only [go_sem, reqD_of, dec_t, dec_f, wrap_i64, wrap_u32, wrap_u64, wrap_u8]
  refine (all_any (b := b) h1).mono ?_
  rintro e w2 ⟨K, h2, rfl⟩
  simp -dsimp -implicitDefEqProofs (disch := omega) only [go_sem, reqD_of, dec_t, dec_f, wrap_i64, wrap_u32, wrap_u64, wrap_u8]
  have h3 : St w0 (ListJ S [] * (StoreP b 0 0 s * (ptrS K b * A))) w2 := by
    have h3 := (h2.nilR 41 13).ac (show _ = (Blk S (.cells #[.slice none 0 0] 69 (0, 0)) * RowO 41 13 (.slice none 0 0) 0 []) * (StoreP b 0 0 s * (ptrS K b * A)) by ac_rfl)
    exact h3.ent (Ent.sep (ListJ.mk (l := []) (.slice none 0 0)) (Ent.rfl' _))
  refine range_introA h3 (gf := 72) (lb := #[.pointer (some ⟨K, 0, none⟩)]) (by simp -dsimp -implicitDefEqProofs only [go_sem]) fact_fnOk_72 (Pass := PassI)
    (fun pre => ListJ S pre) (fun _ _ => HP.fact False EmpH) (Ent.rfl' _) ?_ (allIter (K := K) (R := A) hs) ?_ ?_
  · intro q pre x args G W1 hpo h6
    have h6 : St w0 (ListJ S pre * (PassI x args * G)) W1 := h6
    obtain ⟨rfl, h7⟩ := PassI.open (h6.ac (by ac_rfl : _ = PassI x args * (ListJ S pre * G)))
    refine ⟨rfl, ?_⟩
    unfold F26.a0
    simp -dsimp -implicitDefEqProofs (disch := omega) only [go_sem, reqD_of, dec_t, dec_f, wrap_i64, wrap_u32, wrap_u64, wrap_u8, List.toList_toArray]
    refine h6.new fun P w5 h8 => ?_
    simp -dsimp -implicitDefEqProofs (disch := omega) only [go_sem, reqD_of, dec_t, dec_f, wrap_i64, wrap_u32, wrap_u64, wrap_u8]
    refine h8.stoAll (b := P) (n := 13) (cs := infL x) rfl rfl (infL_cells x) fun w6 h9 => ?_
    simp -dsimp -implicitDefEqProofs (disch := omega) only [go_sem, reqD_of, dec_t, dec_f, wrap_i64, wrap_u32, wrap_u64, wrap_u8]
    refine ⟨infB P x, h9, fun G2 W2 hl2 h10 => ?_⟩
    clear h6 h7 h8 h9
    have h10 : St w0 (infB P x * (ListJ S pre * (PassI x #[.agg (infL x).toArray] * G2))) W2 := h10
    have hpl : pre.length + 1 ≤ s.L.length := by
      obtain ⟨post, hp⟩ := hpo
      have := congrArg List.length hp
      simp only [List.length_append, List.length_cons, List.length_nil] at this
      omega
    obtain ⟨vo, h11⟩ := ListJ.open (h10.ac (by ac_rfl : _ = ListJ S pre * (infB P x * (PassI x #[.agg (infL x).toArray] * G2))))
    obtain ⟨ao, co, rfl, _⟩ := h11.rowForm vo
    unfold F26.b0
    simp -dsimp -implicitDefEqProofs (disch := omega) only [go_sem, reqD_of, dec_t, dec_f, wrap_i64, wrap_u32, wrap_u64, wrap_u8, h11.cl S, h11.rowH P 13 rfl]
    refine h11.lit (t := 69) (n := 1) (cells := infL x) rowTy_node rfl (by decide) (by decide) fun v1 w1 h14 => ?_
    simp -dsimp -implicitDefEqProofs (disch := omega) only [go_sem, reqD_of, dec_t, dec_f, wrap_i64, wrap_u32, wrap_u64, wrap_u8]
    refine h14.appR (v := .slice ao pre.length co) (x := v1) rowTy_node Tryd.underlying69 (infL_cells x) (by simp) (show _ ≤ 9223372036854775807 by omega) (by omega) fun v3 w3 h17 => ?_
    obtain ⟨a3, c3, rfl, _⟩ := h17.rowForm v3
    simp -dsimp -implicitDefEqProofs (disch := omega) only [go_sem, reqD_of, dec_t, dec_f, wrap_i64, wrap_u32, wrap_u64, wrap_u8]
    refine h17.sto (b := S) (off := 0) (by simp) rfl fun w4 h18 => ?_
    simp only [List.setIfInBounds_toArray, List.set_cons_succ, List.set_cons_zero] at h18
    simp -dsimp -implicitDefEqProofs (disch := omega) only [go_sem, reqD_of, dec_t, dec_f, wrap_i64, wrap_u32, wrap_u64, wrap_u8]
    have hp1 : (pre ++ [x]).length = pre.length + 1 := by simp
    have hp2 : (pre ++ [x]).flatMap infL = pre.flatMap infL ++ infL x := by simp
    have h19 : St w0 ((Blk S (.cells #[.slice a3 (pre.length + 1) c3] 69 (0, 0)) * NodeL (.slice a3 (pre.length + 1) c3) (pre ++ [x])) * G2) w4 := by
      show St w0 ((Blk S (.cells #[.slice a3 (pre.length + 1) c3] 69 (0, 0)) * RowO _ _ _ _ _) * G2) w4
      rw [hp1, hp2]
      exact (h18.right.ent (Ent.sep (Ent.rfl' _) (Ent.sep (Ent.rfl' _) ((Ent.right _ _).trans (Ent.right _ _))))).ac (by ac_rfl)
    exact h19.ent (Ent.sep (ListJ.mk _) (Ent.rfl' _))
  · intro D xs w' hS h6
    subst hS
    obtain ⟨v, h7⟩ := ListJ.open (h6.ac (by ac_rfl : _ = ListJ S (tellL s) * (Blk D (.deferred (some [])) * (StoreP b 0 0 s * (ptrS K b * A)))))
    obtain ⟨a, c, rfl, _⟩ := h7.rowForm v
    simp -dsimp -implicitDefEqProofs (disch := omega) only [go_sem, reqD_of, dec_t, dec_f, wrap_i64, wrap_u32, wrap_u64, wrap_u8, h7.cl S]
    refine St.mark1 (D := D) (h7.ac (by show _ = Blk D (.deferred (some [])) * (Blk S (.cells #[.slice a (tellL s).length c] 69 (0, 0)) * (ptrS K b * (NodeL (.slice a (tellL s).length c) (tellL s) * (StoreP b 0 0 s * A)))); ac_rfl)) fun w3 h10 => ?_
    exact ⟨_, h10.right.right.right, rfl⟩
  · intro D c pre w' h6
    exact (h6.sw2.factF).1.elim
end
end
end Go.Proofs.YtijnmokpihhhcaaDoor

namespace Go.Proofs.YtijnmokpihhhcaaDoor
open Go
set_option linter.unusedVariables false
set_option linter.unusedSimpArgs false
set_option maxRecDepth 100000

section
variable {w0 w : World} {A : HP}
section
attribute [local go_sem] F54.t3_eq
theorem cloneU_any {v : Value} {l : List Nat} (hr : Ent A (Reads 1 v l.length (l.map u64V))) (hl : l.length ≤ 1000000) (h : St w0 A w) :
    Calls Tryd.prog 54 #[v] w fun e w' => ∃ v', St w0 (RowU v' l * A) w' ∧ e = .returned v' := by
  obtain ⟨a, c, rfl, _, hc⟩ := ((h.ent hr).rd).form
  refine F54.calls (by simp) ?_
  unfold F54.code
  cases a with
  | none =>
    have hl0 : l = [] := by
      rcases hc with hc | ⟨_, _, hc, _⟩
      · simpa using hc
      · cases hc
    subst hl0
    simp -dsimp -implicitDefEqProofs (disch := omega) only [go_sem, reqD_of, dec_t, dec_f, wrap_i64, wrap_u32, wrap_u64, wrap_u8]
    exact ⟨_, h.nilR 30 1, rfl⟩
  | some a =>
    simp -dsimp -implicitDefEqProofs (disch := omega) only [go_sem, reqD_of, dec_t, dec_f, wrap_i64, wrap_u32, wrap_u64, wrap_u8]
    refine h.lit0 rowTy_u64 rfl fun v1 w1 h1 => ?_
    simp -dsimp -implicitDefEqProofs (disch := omega) only [go_sem, reqD_of, dec_t, dec_f, wrap_i64, wrap_u32, wrap_u64, wrap_u8]
    refine h1.appendO rowTy_u64 (((h1.right.ent hr).rd).src Tryd.underlying63 (u64_cells _) (fun hh => by simpa using congrArg List.length hh)) (show _ ≤ 9223372036854775807 by omega) (by omega) fun v2 w2 h2 => ?_
    simp -dsimp -implicitDefEqProofs (disch := omega) only [go_sem, reqD_of, dec_t, dec_f, wrap_i64, wrap_u32, wrap_u64, wrap_u8]
    refine ⟨v2, ?_, rfl⟩
    rw [Nat.zero_add, List.nil_append] at h2
    exact h2
end
end

/-! ### A store like another one -/

theorem lk_app {κ : Type} [DecidableEq κ] {x y : κ} {v : Value} : ∀ {l : List (κ × Value)}, y ∉ l.map (·.1) → lk x (l ++ [(y, v)]) = if x = y then some v else lk x l
  | [], _ => by simp [lk]
  | (z, u) :: l, h => by
    simp only [List.map_cons, List.mem_cons, not_or] at h
    simp only [List.cons_append, lk, lk_app (l := l) h.2]
    by_cases hxz : x = z
    · subst hxz
      rw [if_pos rfl, if_pos rfl, if_neg (fun e => h.1 e.symm)]
    · rw [if_neg hxz, if_neg hxz]
theorem lk_perm {κ : Type} [DecidableEq κ] {x : κ} {l l' : List (κ × Value)} (hn : (l.map (·.1)).Nodup) (hp : l'.Perm l) : lk x l' = lk x l := by
  have hn' := (hp.map (·.1)).nodup_iff.2 hn
  by_cases hm : x ∈ l.map (·.1)
  · obtain ⟨⟨y, v⟩, hy, rfl⟩ := List.mem_map.1 hm
    rw [lk_mem hn hy, lk_mem hn' (hp.mem_iff.2 hy)]
  · rw [lk_not hm, lk_not (fun h => hm ((hp.map (·.1)).mem_iff.1 h))]
section
variable {w0 w : World} {A B : HP} {b c N C r : Nat} {s : SD} {ov vC : Value} {cl : List (KD × Value)} {e : FA}
abbrev CloneC (c : Nat) (s : SD) (N : Nat) (ov : Value) (C : Nat) : HP := Blk c (.cells (storeC 0 0 s.most s.next (.map (some N)) ov (.map (some C))) 101 (0, 0))
section
attribute [local go_sem] F31.t6_eq F31.t18_eq F31.t19_eq F31.t14_eq F31.t20_eq F31.t10_eq F31.t21_eq F31.t8_eq F31.t4_eq
/-- The names. -/
theorem clone_loop1 {Q : Post} {yC : Nat} {θ : Tag ((.loop ((Cd.region 5 F31.r5.toArray false).seq ((Cd.cond (.tmp 42) .skip (.exit 0)).seq F31.t6)) : Cd), Q, e, w)}
    (e0 : e.ρ 0 = .pointer (some ⟨b, 0, none⟩)) (e3 : e.ρ 3 = .pointer (some ⟨c, 0, none⟩)) (e40 : e.ρ 40 = .pointer (some ⟨r, 0, none⟩)) (hn : (cl.map (·.1)).Nodup)
    (h : St w0 (CloneC c s N ov C * (MapP encK C [] * (IterP encK yC r cl cl * B))) w)
    (hQ : ∀ e' w' cl', e'.ds = e.ds → e'.ρ 0 = .pointer (some ⟨b, 0, none⟩) → e'.ρ 3 = .pointer (some ⟨c, 0, none⟩) → (∀ k, lk k cl' = lk k cl) → St w0 (CloneC c s N ov C * (MapP encK C cl' * (MapP encK yC cl * B))) w' → Q (.exit 0) e' w') :
    cwE Tryd.prog (.loop ((Cd.region 5 F31.r5.toArray false).seq ((Cd.cond (.tmp 42) .skip (.exit 0)).seq F31.t6))) Q e w θ := by
  obtain ⟨ds, hds⟩ : ∃ ds, ds = e.ds := ⟨_, rfl⟩
  rw [← hds] at hQ
  refine loop_intro (fun e w' => e.ds = ds ∧ e.ρ 0 = .pointer (some ⟨b, 0, none⟩) ∧ e.ρ 3 = .pointer (some ⟨c, 0, none⟩) ∧ e.ρ 40 = .pointer (some ⟨r, 0, none⟩) ∧ ∃ (done left cl' : List (KD × Value)), (done ++ left).Perm cl ∧ (∀ k, lk k cl' = lk k done) ∧
      St w0 (CloneC c s N ov C * (MapP encK C cl' * (IterP encK yC r cl left * B))) w')
    (fun _ w => iterLeft yC r w) ?_ ?_
  · exact ⟨hds.symm, e0, e3, e40, [], cl, [], by simp, fun _ => rfl, h⟩
  clear h e0 e3 e40 hds
  rintro e w ⟨hd, e0, e3, e40, done, left, cl', hp, hlk, h⟩
  have hleft := h.iterLeft yC
  simp -dsimp -implicitDefEqProofs (disch := omega) only [go_sem, reqD_of, dec_t, dec_f, wrap_i64, wrap_u32, wrap_u64, wrap_u8, e0, e3, e40]
  refine h.nextH (r := r) (left := left) yC (fun hnil => ?_) fun j hj w6 h6 => ?_
  · subst hnil
    rw [List.append_nil] at hp
    simp -dsimp -implicitDefEqProofs (disch := omega) only [go_sem, reqD_of, dec_t, dec_f, wrap_i64, wrap_u32, wrap_u64, wrap_u8, hd, e0, e3, e40]
    refine hQ _ _ cl' (by simp -dsimp -implicitDefEqProofs only [go_sem, hd]) (by simp -dsimp -implicitDefEqProofs only [go_sem, e0]) (by simp -dsimp -implicitDefEqProofs only [go_sem, e3]) (fun k => by rw [hlk, lk_perm hn hp]) (h.iterEnd yC)
  · obtain ⟨⟨⟨kd, kn⟩, v⟩, hx⟩ : ∃ x, x = left[j] := ⟨_, rfl⟩
    rw [← hx] at h6
    have hpm : (((kd, kn), v) :: left.eraseIdx j).Perm left := by rw [hx]; exact perm_eraseIdx left j hj
    have hall : (done ++ [((kd, kn), v)] ++ left.eraseIdx j).Perm cl := by
      refine List.Perm.trans ?_ hp
      rw [List.append_assoc]
      exact List.Perm.append_left done hpm
    have hnew : ((kd, kn) : KD) ∉ done.map (·.1) := fun hm => by
      have h1 := (hall.map (·.1)).nodup_iff.2 hn
      rw [List.map_append, List.map_append] at h1
      have h2 := (List.nodup_append.1 h1).1
      have h3 := (List.nodup_append.1 h2).2.2 _ hm (kd, kn) (by simp)
      exact h3 rfl
    rw [← hx]
    simp -dsimp -implicitDefEqProofs (disch := omega) only [go_sem, reqD_of, dec_t, dec_f, wrap_i64, wrap_u32, wrap_u64, wrap_u8, hd, e0, e3, e40]
    refine h6.entryH yC ?_
    simp -dsimp -implicitDefEqProofs (disch := omega) only [go_sem, reqD_of, dec_t, dec_f, wrap_i64, wrap_u32, wrap_u64, wrap_u8, hd, e0, e3, e40]
    refine h6.new fun X w7 h7 => ?_
    simp -dsimp -implicitDefEqProofs (disch := omega) only [go_sem, reqD_of, dec_t, dec_f, wrap_i64, wrap_u32, wrap_u64, wrap_u8, hd, e0, e3, e40]
    refine h7.stoAll (b := X) (cs := [.int .u64 (kd : Int), .string (strOf kn)]) rfl rfl (fun v hv => by simp at hv; rcases hv with rfl | rfl <;> rfl) fun w8 h8 => ?_
    have h8d := h8.drew
    simp -dsimp -implicitDefEqProofs (disch := omega) only [go_sem, reqD_of, dec_t, dec_f, wrap_i64, wrap_u32, wrap_u64, wrap_u8, hd, e0, e3, e40, h8d.cl c, h8d.cl X]
    refine h8d.updH (b := C) (x := ((kd, kn) : KD)) Tryd.underlying94 lawK fun w9 h9 => ?_
    have h10 := h9.iterDone yC
    have hl5 := h10.iterLeft yC
    simp -dsimp -implicitDefEqProofs (disch := omega) only [go_sem, reqD_of, dec_t, dec_f, wrap_i64, wrap_u32, wrap_u64, wrap_u8, hd, e0, e3, e40, h9.cl c, h9.cl X]
    refine ⟨⟨done ++ [((kd, kn), v)], left.eraseIdx j, _, hall, fun k => ?_, h10.right⟩, ?_⟩
    · rw [lk_upd, lk_app hnew, hlk]
    · rw [hl5, hleft, List.length_eraseIdx, if_pos hj]; omega
end
end
end Go.Proofs.YtijnmokpihhhcaaDoor

namespace Go.Proofs.YtijnmokpihhhcaaDoor
open Go
set_option linter.unusedVariables false
set_option linter.unusedSimpArgs false
set_option maxRecDepth 100000

/-- The same bytes, in other blocks. -/
def SameB (P P' : BL) : Prop := P'.map (Option.map Prod.snd) = P.map (Option.map Prod.snd)
theorem SameB.ok {P P' : BL} {b : List UInt8} (h : SameB P P') (ok : BlksOk P b) : BlksOk P' b := by
  have hl : P'.length = P.length := by have := congrArg List.length h; simpa [SameB] using this
  have hg : ∀ k, (P'[k]?).map (Option.map Prod.snd) = (P[k]?).map (Option.map Prod.snd) := fun k => by
    have h' : P'.map (Option.map Prod.snd) = P.map (Option.map Prod.snd) := h
    rw [← List.getElem?_map, ← List.getElem?_map, h']
  have hb : ∀ k, byteAt P' k = byteAt P k := fun k => by
    have := hg (k / 256)
    unfold byteAt
    cases h1 : P'[k / 256]? with
    | none =>
      cases h2 : P[k / 256]? with
      | none => rfl
      | some q => rw [h1, h2] at this; cases this
    | some p =>
      cases h2 : P[k / 256]? with
      | none => rw [h1, h2] at this; cases this
      | some q =>
        rw [h1, h2] at this
        simp only [Option.map_some, Option.some.injEq] at this
        cases p with
        | none => cases q with
          | none => rfl
          | some q => cases this
        | some p => cases q with
          | none => cases this
          | some q =>
            simp only [Option.map_some, Option.some.injEq] at this
            simp only [this]
  refine ⟨by rw [hl]; exact ok.few, fun p hp => ?_, fun k hk => by rw [hb]; exact ok.at_ k hk⟩
  have : (some p.2) ∈ P'.map (Option.map Prod.snd) := List.mem_map.2 ⟨some p, hp, rfl⟩
  rw [show P'.map (Option.map Prod.snd) = P.map (Option.map Prod.snd) from h] at this
  obtain ⟨q, hq, e⟩ := List.mem_map.1 this
  cases q with
  | none => cases e
  | some q =>
    simp only [Option.map_some, Option.some.injEq] at e
    rw [← e]
    exact ok.full q hq
theorem starL_app (P : BL) (p : Option (Nat × List UInt8)) : starL BlkP (P ++ [p]) = BlkP p * starL BlkP P := by
  have := starL_split BlkP p P []
  rw [List.append_nil] at this
  exact this

theorem RowB_app {v : Value} {P : BL} {p : Option (Nat × List UInt8)} : RowB v (P ++ [p]) = RowO 122 1 v (P.length + 1) (P.map ptrV ++ [ptrV p]) := by
  unfold RowB
  rw [List.length_append, List.map_append]
  rfl
section
variable {w0 w : World} {F : HP} {b c m n r : Nat} {i : Inf} {vk : Value} {ab : Option Addr} {cb : Nat} {P : BL} {e : FA}
section
attribute [local go_sem] F31.t6_eq F31.t18_eq F31.t19_eq F31.t14_eq F31.t20_eq F31.t10_eq F31.t21_eq F31.t8_eq F31.t4_eq
/-- Its blocks. -/
theorem clone_blks {Q : Post} {pv : Value} {θ : Tag ((.loop ((Cd.region 13 F31.r13.toArray false).seq ((Cd.cond (.tmp 79) .skip (.exit 4)).seq F31.t14)) : Cd), Q, e, w)}
    (e0 : e.ρ 0 = .pointer (some ⟨b, 0, none⟩)) (e3 : e.ρ 3 = .pointer (some ⟨c, 0, none⟩)) (e6 : e.ρ 6 = pv) (e8 : e.ρ 8 = .pointer (some ⟨m, 0, none⟩)) (e56 : e.ρ 56 = .pointer (some ⟨r, 0, none⟩)) (e76 : e.ρ 76 = .slice ab P.length cb) (e77 : e.ρ 77 = .int .i64 P.length) (e78 : e.ρ 78 = .int .i64 0)
    (hP : P.length ≤ 256) (hfull : ∀ p, some p ∈ P → p.2.length = 256)
    (h : St w0 (NodeB m 0 i vk (.slice none 0 0) * (RowB (.slice ab P.length cb) P * (starL BlkP P * F))) w)
    (hQ : ∀ e' w' vb' P', e'.ds = e.ds → e'.ρ 0 = .pointer (some ⟨b, 0, none⟩) → e'.ρ 3 = .pointer (some ⟨c, 0, none⟩) → e'.ρ 6 = pv → e'.ρ 8 = .pointer (some ⟨m, 0, none⟩) → e'.ρ 56 = .pointer (some ⟨r, 0, none⟩) → SameB P P' → St w0 (NodeB m 0 i vk vb' * (BlksP vb' P' * (RowB (.slice ab P.length cb) P * (starL BlkP P * F)))) w' → Q (.exit 4) e' w') :
    cwE Tryd.prog (.loop ((Cd.region 13 F31.r13.toArray false).seq ((Cd.cond (.tmp 79) .skip (.exit 4)).seq F31.t14))) Q e w θ := by
  obtain ⟨ds, hds⟩ : ∃ ds, ds = e.ds := ⟨_, rfl⟩
  rw [← hds] at hQ
  refine loop_intro (fun e w' => e.ds = ds ∧ e.ρ 0 = .pointer (some ⟨b, 0, none⟩) ∧ e.ρ 3 = .pointer (some ⟨c, 0, none⟩) ∧ e.ρ 6 = pv ∧ e.ρ 8 = .pointer (some ⟨m, 0, none⟩) ∧ e.ρ 56 = .pointer (some ⟨r, 0, none⟩) ∧ e.ρ 76 = .slice ab P.length cb ∧ e.ρ 77 = .int .i64 P.length ∧ ∃ (k : Nat) (vb' : Value) (P' : BL), k ≤ P.length ∧ P'.length = k ∧ e.ρ 78 = .int .i64 k ∧ SameB (P.take k) P' ∧
      St w0 (NodeB m 0 i vk vb' * (RowB vb' P' * (RowB (.slice ab P.length cb) P * (starL BlkP P * (starL BlkP P' * F))))) w')
    (fun e _ => match e.ρ 78 with | .int _ x => (P.length - x).toNat | _ => 0) ?_ ?_
  · refine ⟨hds.symm, e0, e3, e6, e8, e56, e76, e77, 0, .slice none 0 0, [], by omega, rfl, e78, rfl, ?_⟩
    have h1 := ((h.nilR 122 1).ent (Ent.embL _)).ac (show _ = NodeB m 0 i vk (.slice none 0 0) * (RowO 122 1 (.slice none 0 0) 0 [] * (RowB (.slice ab P.length cb) P * (starL BlkP P * (EmpH * F)))) by ac_rfl)
    exact h1
  clear h e0 e3 e6 e8 e56 e76 e77 e78 hds
  rintro e w ⟨hd, e0, e3, e6, e8, e56, e76, e77, k, vb', P', hk, hl', e78, hsame, h⟩
  by_cases hlt : (k : Int) < P.length
  case neg =>
    have : k = P.length := by omega
    rw [this, List.take_length] at hsame
    simp -dsimp -implicitDefEqProofs (disch := omega) only [go_sem, reqD_of, dec_t, dec_f, wrap_i64, wrap_u32, wrap_u64, wrap_u8, hd, e0, e3, e6, e8, e56, e76, e77, e78, hlt]
    exact hQ _ _ vb' P' (by simp -dsimp -implicitDefEqProofs only [go_sem, hd]) (by simp -dsimp -implicitDefEqProofs only [go_sem, e0]) (by simp -dsimp -implicitDefEqProofs only [go_sem, e3]) (by simp -dsimp -implicitDefEqProofs only [go_sem, e6]) (by simp -dsimp -implicitDefEqProofs only [go_sem, e8]) (by simp -dsimp -implicitDefEqProofs only [go_sem, e56]) hsame (h.ac (by unfold BlksP; ac_rfl))
  have hkl : k < P.length := by omega
  obtain ⟨g, o, rfl, hp⟩ := h.atS (a := ab) (n := P.length) (c := cb) (xs := P.map ptrV) (k := k) (by simpa using hkl)
  rw [List.getElem_map] at hp
  obtain ⟨av, cv, rfl, _, hcv⟩ := h.rowForm vb'
  have hstep : ∀ p' : Option (Nat × List UInt8), p'.map Prod.snd = (P[k]).map Prod.snd → SameB (P.take (k + 1)) (P' ++ [p']) := fun p' hp' => by
    unfold SameB at hsame ⊢
    rw [List.take_succ_eq_append_getElem hkl, List.map_append, List.map_append, hsame]
    simp [hp']
  cases hq : P[k] with
  | none =>
    rw [hq, ptrV] at hp
    simp -dsimp -implicitDefEqProofs (disch := omega) only [go_sem, reqD_of, dec_t, dec_f, wrap_i64, wrap_u32, wrap_u64, wrap_u8, hd, e0, e3, e6, e8, e56, e76, e77, e78, hlt, hp, h.cl m]
    refine h.lit (t := 90) (n := 1) (cells := [.pointer none]) rowTy_blks rfl (by decide) (by decide) fun v2 w2 k2 => ?_
    simp -dsimp -implicitDefEqProofs (disch := omega) only [go_sem, reqD_of, dec_t, dec_f, wrap_i64, wrap_u32, wrap_u64, wrap_u8, hd, e0, e3, e6, e8, e56, e76, e77, e78]
    refine k2.appR (v := .slice av P'.length cv) (x := v2) rowTy_blks Tryd.underlying90 (fun u hu => by simp at hu; subst hu; rfl) (by simp) (show _ ≤ 9223372036854775807 by omega) (by omega) fun v3 w3 k3 => ?_
    obtain ⟨a3, c3, rfl, _⟩ := k3.rowForm v3
    simp -dsimp -implicitDefEqProofs (disch := omega) only [go_sem, reqD_of, dec_t, dec_f, wrap_i64, wrap_u32, wrap_u64, wrap_u8, hd, e0, e3, e6, e8, e56, e76, e77, e78]
    refine k3.sto (b := m) (off := 16) (by simp) rfl fun w4 k4 => ?_
    simp only [List.setIfInBounds_toArray, List.set_cons_succ, List.set_cons_zero] at k4
    simp -dsimp -implicitDefEqProofs (disch := omega) only [go_sem, reqD_of, dec_t, dec_f, wrap_i64, wrap_u32, wrap_u64, wrap_u8, hd, e0, e3, e6, e8, e56, e76, e77, e78]
    have k5 : St w0 (NodeB m 0 i vk (.slice a3 (P'.length + 1) c3) * (RowO 122 1 (.slice a3 (P'.length + 1) c3) (P'.length + 1) (P'.map ptrV ++ [ptrV none]) * (RowB (.slice (some ⟨g, o, none⟩) P.length cb) P * (starL BlkP P * (starL BlkP P' * F))))) w4 := k4.right
    refine ⟨⟨k + 1, .slice a3 (P'.length + 1) c3, P' ++ [none], by omega, by simp; omega, by omega, hstep none (by rw [hq]), ?_⟩, by omega⟩
    rw [starL_app, RowB_app]
    show St w0 (_ * (_ * (_ * (_ * ((EmpH * _) * _))))) w4
    exact (k5.ent (Ent.embL _)).ac (by ac_rfl)
  | some q =>
    obtain ⟨ba, bs⟩ := q
    rw [hq, ptrV] at hp
    have hb := hfull (ba, bs) (by rw [← hq]; exact List.getElem_mem hkl)
    have hsp := starL_at (P := P) (q := k) (ba := ba) (bs := bs) (by rw [List.getElem?_eq_getElem hkl, hq])
    have h2 := h.ac (show _ = NodeB m 0 i vk (.slice av P'.length cv) * (RowB (.slice av P'.length cv) P' * (RowB (.slice (some ⟨g, o, none⟩) P.length cb) P * (Blk ba (.cells (bs.map bv).toArray 123 (0, 0)) * (starL BlkP (P.take k ++ P.drop (k + 1)) * (starL BlkP P' * F))))) by rw [hsp]; ac_rfl)
    simp -dsimp -implicitDefEqProofs (disch := omega) only [go_sem, reqD_of, dec_t, dec_f, wrap_i64, wrap_u32, wrap_u64, wrap_u8, hd, e0, e3, e6, e8, e56, e76, e77, e78, hlt, hp, h2.rowH ba 256 (by simp [hb])]
    refine h2.new fun X w5 k5 => ?_
    simp -dsimp -implicitDefEqProofs (disch := omega) only [go_sem, reqD_of, dec_t, dec_f, wrap_i64, wrap_u32, wrap_u64, wrap_u8, hd, e0, e3, e6, e8, e56, e76, e77, e78]
    refine k5.stoAll (b := X) (n := 256) (cs := bs.map bv) (by simp [hb]) rfl (by simp [isCell, bv]) fun w6 k6 => ?_
    simp -dsimp -implicitDefEqProofs (disch := omega) only [go_sem, reqD_of, dec_t, dec_f, wrap_i64, wrap_u32, wrap_u64, wrap_u8, hd, e0, e3, e6, e8, e56, e76, e77, e78, k6.cl m]
    refine k6.lit (t := 90) (n := 1) (cells := [.pointer (some ⟨X, 0, none⟩)]) rowTy_blks rfl (by decide) (by decide) fun v2 w2 k2 => ?_
    simp -dsimp -implicitDefEqProofs (disch := omega) only [go_sem, reqD_of, dec_t, dec_f, wrap_i64, wrap_u32, wrap_u64, wrap_u8, hd, e0, e3, e6, e8, e56, e76, e77, e78]
    refine k2.appR (v := .slice av P'.length cv) (x := v2) rowTy_blks Tryd.underlying90 (fun u hu => by simp at hu; subst hu; rfl) (by simp) (show _ ≤ 9223372036854775807 by omega) (by omega) fun v3 w3 k3 => ?_
    obtain ⟨a3, c3, rfl, _⟩ := k3.rowForm v3
    simp -dsimp -implicitDefEqProofs (disch := omega) only [go_sem, reqD_of, dec_t, dec_f, wrap_i64, wrap_u32, wrap_u64, wrap_u8, hd, e0, e3, e6, e8, e56, e76, e77, e78]
    refine k3.sto (b := m) (off := 16) (by simp) rfl fun w4 k4 => ?_
    simp only [List.setIfInBounds_toArray, List.set_cons_succ, List.set_cons_zero] at k4
    simp -dsimp -implicitDefEqProofs (disch := omega) only [go_sem, reqD_of, dec_t, dec_f, wrap_i64, wrap_u32, wrap_u64, wrap_u8, hd, e0, e3, e6, e8, e56, e76, e77, e78]
    have k7 : St w0 (BlkP (some (X, bs)) * (NodeB m 0 i vk (.slice a3 (P'.length + 1) c3) * (RowO 122 1 (.slice a3 (P'.length + 1) c3) (P'.length + 1) (P'.map ptrV ++ [ptrV (some (X, bs))]) * (RowB (.slice (some ⟨g, o, none⟩) P.length cb) P * (Blk ba (.cells (bs.map bv).toArray 123 (0, 0)) * (starL BlkP (P.take k ++ P.drop (k + 1)) * (starL BlkP P' * F))))))) w4 := k4.right
    refine ⟨⟨k + 1, .slice a3 (P'.length + 1) c3, P' ++ [some (X, bs)], by omega, by simp; omega, by omega, hstep (some (X, bs)) (by rw [hq]; rfl), ?_⟩, by omega⟩
    rw [starL_app, RowB_app, hsp]
    exact k7.ac (by ac_rfl)
end
end
end Go.Proofs.YtijnmokpihhhcaaDoor

namespace Go.Proofs.YtijnmokpihhhcaaDoor
open Go
set_option linter.unusedVariables false
set_option linter.unusedSimpArgs false
set_option maxRecDepth 100000

section
variable {w0 w : World} {B : HP} {b c r N C : Nat} {s : SD} {ov : Value} {e : FA}
section
attribute [local go_sem] F31.t6_eq F31.t18_eq F31.t19_eq F31.t14_eq F31.t20_eq F31.t10_eq F31.t21_eq F31.t8_eq F31.t4_eq
/-- The nodes, one by one. -/
theorem clone_loop2 {Q : Post} {yN : Nat} {X : List NN} {θ : Tag ((.loop ((Cd.region 9 F31.r9.toArray false).seq ((Cd.cond (.tmp 58) .skip (.exit 2)).seq F31.t10)) : Cd), Q, e, w)}
    (e0 : e.ρ 0 = .pointer (some ⟨b, 0, none⟩)) (e3 : e.ρ 3 = .pointer (some ⟨c, 0, none⟩)) (e56 : e.ρ 56 = .pointer (some ⟨r, 0, none⟩)) (hn : (X.map fun x => x.d.i.path).Nodup)
    (hks : ∀ x ∈ X, x.ks.length ≤ 1000000) (hb : ∀ x ∈ X, BlksOk x.P x.d.b)
    (h : St w0 (CloneC c s N ov C * (MapP encU N [] * (IterP encU yN r (X.map kv) (X.map kv) * (starL nodeP X * B)))) w)
    (hQ : ∀ e' w' X', e'.ds = e.ds → e'.ρ 3 = .pointer (some ⟨c, 0, none⟩) → (X'.map (·.d)).Perm (X.map (·.d)) → (∀ x' ∈ X', ∃ x ∈ X, x'.d = x.d ∧ x'.ks = x.ks ∧ SameB x.P x'.P) → St w0 (CloneC c s N ov C * (MapP encU N (X'.map kv) * (starL nodeP X' * (MapP encU yN (X.map kv) * (starL nodeP X * B))))) w' → Q (.exit 2) e' w') :
    cwE Tryd.prog (.loop ((Cd.region 9 F31.r9.toArray false).seq ((Cd.cond (.tmp 58) .skip (.exit 2)).seq F31.t10))) Q e w θ := by
  obtain ⟨ds, hds⟩ : ∃ ds, ds = e.ds := ⟨_, rfl⟩
  rw [← hds] at hQ
  refine loop_intro (fun e w' => e.ds = ds ∧ e.ρ 0 = .pointer (some ⟨b, 0, none⟩) ∧ e.ρ 3 = .pointer (some ⟨c, 0, none⟩) ∧ e.ρ 56 = .pointer (some ⟨r, 0, none⟩) ∧ ∃ (done left X' : List NN), (done ++ left).Perm X ∧ X'.map (·.d) = done.map (·.d) ∧ (∀ x' ∈ X', ∃ x ∈ X, x'.d = x.d ∧ x'.ks = x.ks ∧ SameB x.P x'.P) ∧
      St w0 (CloneC c s N ov C * (MapP encU N (X'.map kv) * (starL nodeP X' * (IterP encU yN r (X.map kv) (left.map kv) * (starL nodeP X * B))))) w')
    (fun _ w => iterLeft yN r w) ?_ ?_
  · exact ⟨hds.symm, e0, e3, e56, [], X, [], by simp, rfl, (fun _ hx => by cases hx), (h.ent (Ent.embL _)).ac (show _ = CloneC c s N ov C * (MapP encU N [] * (EmpH * (IterP encU yN r (X.map kv) (X.map kv) * (starL nodeP X * B)))) by ac_rfl)⟩
  clear h e0 e3 e56 hds
  rintro e w ⟨hd, e0, e3, e56, done, left, X', hp, hX', hall, h⟩
  have hleft := h.iterLeft yN
  simp -dsimp -implicitDefEqProofs (disch := omega) only [go_sem, reqD_of, dec_t, dec_f, wrap_i64, wrap_u32, wrap_u64, wrap_u8, e0, e3, e56]
  refine h.nextH (r := r) (left := left.map kv) yN (fun hnil => ?_) fun j hj w6 h6 => ?_
  · have hnil' : left = [] := by simpa using hnil
    subst hnil'
    rw [List.append_nil] at hp
    simp -dsimp -implicitDefEqProofs (disch := omega) only [go_sem, reqD_of, dec_t, dec_f, wrap_i64, wrap_u32, wrap_u64, wrap_u8, hd, e0, e3, e56]
    refine hQ _ _ X' (by simp -dsimp -implicitDefEqProofs only [go_sem, hd]) (by simp -dsimp -implicitDefEqProofs only [go_sem, e3]) (by rw [hX']; exact hp.map _) hall (h.iterEnd yN)
  have hj' : j < left.length := by simpa using hj
  obtain ⟨x, hx⟩ : ∃ x, x = left[j] := ⟨_, rfl⟩
  have e1 : (left.map kv)[j] = kv x := by rw [hx]; simp
  have e2 : (left.map kv).eraseIdx j = (left.eraseIdx j).map kv := by rw [List.eraseIdx_eq_take_drop_succ, List.eraseIdx_eq_take_drop_succ, List.map_append, List.map_take, List.map_drop]
  rw [e1, e2] at h6
  rw [e1]
  have hpm : (x :: left.eraseIdx j).Perm left := by rw [hx]; exact perm_eraseIdx left j hj'
  have hperm : (done ++ [x] ++ left.eraseIdx j).Perm X := by
    refine List.Perm.trans ?_ hp
    rw [List.append_assoc]
    exact List.Perm.append_left done hpm
  have hxX : x ∈ X := hperm.subset (by simp)
  obtain ⟨X1, X2, hs⟩ := List.append_of_mem hxX
  have hnew : ((x.d.i.path : Nat) : Int) ∉ (X'.map kv).map (·.1) := fun hm => by
    have hm2 : x.d.i.path ∈ done.map (fun z => z.d.i.path) := by
      rw [List.map_map] at hm
      obtain ⟨z, hz, he⟩ := List.mem_map.1 hm
      have he : z.d.i.path = x.d.i.path := by have h9 : ((z.d.i.path : Nat) : Int) = x.d.i.path := he; omega
      have : z.d ∈ done.map (·.d) := by rw [← hX']; exact List.mem_map_of_mem hz
      obtain ⟨y, hy, hyd⟩ := List.mem_map.1 this
      exact List.mem_map.2 ⟨y, hy, by rw [hyd, he]⟩
    have h1 := (hperm.map (fun z => z.d.i.path)).nodup_iff.2 hn
    rw [List.map_append, List.map_append] at h1
    have h2 := (List.nodup_append.1 h1).1
    exact (List.nodup_append.1 h2).2.2 _ hm2 x.d.i.path (by simp) rfl
  have hsp := starL_split nodeP x X1 X2
  rw [← hs] at hsp
  have hbx := hb x hxX
  have kv1 : (kv x).1 = ((x.d.i.path : Nat) : Int) := rfl
  have kv2 : (kv x).2 = .pointer (some ⟨x.n, 0, none⟩) := rfl
  simp -dsimp -implicitDefEqProofs (disch := omega) only [go_sem, reqD_of, dec_t, dec_f, wrap_i64, wrap_u32, wrap_u64, wrap_u8, hd, e0, e3, e56, kv1, kv2]
  refine h6.entryH yN ?_
  obtain ⟨It, hIt⟩ : ∃ It, It = IterAt encU yN r (X.map kv) ((left.eraseIdx j).map kv) (kv x).1 (kv x).2 := ⟨_, rfl⟩
  rw [← hIt] at h6
  have h7 := h6.ac (show _ = NodeB x.n 0 x.d.i x.vk x.vb * (RowU x.vk x.ks * (RowB x.vb x.P * (starL BlkP x.P * (CloneC c s N ov C * (MapP encU N (X'.map kv) * (It * (starL nodeP X' * (starL nodeP (X1 ++ X2) * B)))))))) by rw [hsp]; unfold nodeP BlksP; ac_rfl)
  have h7d := h7.drew
  obtain ⟨ab, cb, hvb, _⟩ := h7d.rowForm x.vb
  rw [hvb] at h7d
  have r7 : rowV _ ⟨x.n, 2, none⟩ 13 = some (.agg (infL x.d.i).toArray) := h7d.rowAtH x.n 2 13 (by show 15 ≤ 17; decide)
  simp -dsimp -implicitDefEqProofs (disch := omega) only [go_sem, reqD_of, dec_t, dec_f, wrap_i64, wrap_u32, wrap_u64, wrap_u8, hd, e0, e3, e56, kv1, kv2, h7d.cl x.n, r7]
  refine (cloneU_any (l := x.ks) ((Ent.right _ _).trans ((Ent.left _ _).trans (RowO.reads _ _ _ _ _))) (hks x hxX) h7d).mono ?_
  rintro e' w8 ⟨vk', h8, rfl⟩
  obtain ⟨ak, ck, rfl, _⟩ := h8.rowForm vk'
  have r8 : rowV _ ⟨x.n, 2, none⟩ 13 = some (.agg (infL x.d.i).toArray) := h8.rowAtH x.n 2 13 (by show 15 ≤ 17; decide)
  simp -dsimp -implicitDefEqProofs (disch := omega) only [go_sem, reqD_of, dec_t, dec_f, wrap_i64, wrap_u32, wrap_u64, wrap_u8, hd, e0, e3, e56, h8.cl x.n, r8]
  refine onV_of (v := .agg (nodeC 0 x.d.i (.slice ak x.ks.length ck) (.slice none 0 0))) (by kernel_rfl) ?_
  simp -dsimp -implicitDefEqProofs (disch := omega) only [go_sem, reqD_of, dec_t, dec_f, wrap_i64, wrap_u32, wrap_u64, wrap_u8, hd, e0, e3, e56, h8.cl x.n, r8]
  refine h8.new fun m w9 h9 => ?_
  have r9 : rowV _ ⟨x.n, 2, none⟩ 13 = some (.agg (infL x.d.i).toArray) := h9.rowAtH x.n 2 13 (by show 15 ≤ 17; decide)
  simp -dsimp -implicitDefEqProofs (disch := omega) only [go_sem, reqD_of, dec_t, dec_f, wrap_i64, wrap_u32, wrap_u64, wrap_u8, hd, e0, e3, e56, h9.cl x.n, r9]
  have h10 := h9.ac (show _ = NodeB m 0 x.d.i (.slice ak x.ks.length ck) (.slice none 0 0) * (RowB (.slice ab x.P.length cb) x.P * (starL BlkP x.P * (RowU (.slice ak x.ks.length ck) x.ks * (NodeB x.n 0 x.d.i x.vk (.slice ab x.P.length cb) * (RowU x.vk x.ks * (CloneC c s N ov C * (MapP encU N (X'.map kv) * (It * (starL nodeP X' * (starL nodeP (X1 ++ X2) * B)))))))))) by simp only [RowU, NodeB]; ac_rfl)
  refine clone_blks (b := b) (c := c) (r := r) (pv := .int .u64 (x.d.i.path : Int)) (P := x.P) (by simp -dsimp -implicitDefEqProofs only [go_sem, e0]) (by simp -dsimp -implicitDefEqProofs only [go_sem, e3]) (by simp -dsimp -implicitDefEqProofs only [go_sem]) (by simp -dsimp -implicitDefEqProofs only [go_sem]) (by simp -dsimp -implicitDefEqProofs only [go_sem, e56]) (by simp -dsimp -implicitDefEqProofs only [go_sem]) (by simp -dsimp -implicitDefEqProofs only [go_sem]) (by simp -dsimp -implicitDefEqProofs only [go_sem]) hbx.few (fun p hp => hbx.full p hp) h10 ?_
  rintro e' w11 vb' P' gd g0 g3 g6 g8 g56 hsame h11
  simp -dsimp -implicitDefEqProofs (disch := omega) only [go_sem, reqD_of, dec_t, dec_f, wrap_i64, wrap_u32, wrap_u64, wrap_u8, g0, g3, g6, g8, g56, h11.cl c]
  refine h11.updH (b := N) (x := ((x.d.i.path : Nat) : Int)) Tryd.underlying93 lawU fun w12 h12 => ?_
  rw [upd_new hnew] at h12
  simp -dsimp -implicitDefEqProofs (disch := omega) only [go_sem, reqD_of, dec_t, dec_f, wrap_i64, wrap_u32, wrap_u64, wrap_u8, g0, g3, g6, g8, g56, h12.cl c]
  obtain ⟨x', hx'⟩ : ∃ x' : NN, x' = ⟨x.d, m, .slice ak x.ks.length ck, vb', x.ks, P'⟩ := ⟨_, rfl⟩
  have q1 : (X' ++ [x']).map kv = X'.map kv ++ [(((x.d.i.path : Nat) : Int), .pointer (some ⟨m, 0, none⟩))] := by rw [List.map_append, hx']; rfl
  have q2 : starL nodeP (X' ++ [x']) = (NodeB m 0 x.d.i (.slice ak x.ks.length ck) vb' * (RowU (.slice ak x.ks.length ck) x.ks * BlksP vb' P')) * starL nodeP X' := by
    have := starL_split nodeP x' X' []
    rw [List.append_nil] at this
    rw [this, hx']
    rfl
  obtain ⟨Mn, hMn⟩ : ∃ Mn, Mn = MapP encU N (X'.map kv ++ [(((x.d.i.path : Nat) : Int), .pointer (some ⟨m, 0, none⟩))]) := ⟨_, rfl⟩
  have h13 : St w0 (CloneC c s N ov C * (Mn * (starL nodeP (X' ++ [x']) * (It * (starL nodeP X * B))))) w12 := by
    rw [← hMn] at h12
    rw [hsp, q2, show nodeP x = NodeB x.n 0 x.d.i x.vk x.vb * (RowU x.vk x.ks * (RowB x.vb x.P * starL BlkP x.P)) from rfl, hvb]
    exact h12.ac (by simp only [RowU, NodeB]; ac_rfl)
  rw [hMn, ← q1, hIt] at h13
  have h14 := h13.iterDone yN
  have hl5 := h14.iterLeft yN
  refine ⟨⟨by rw [gd]; simp -dsimp -implicitDefEqProofs only [go_sem, hd], done ++ [x], left.eraseIdx j, X' ++ [x'], hperm, ?_, ?_, h14⟩, ?_⟩
  · rw [List.map_append, List.map_append, hX', hx']; rfl
  · intro z hz
    rcases List.mem_append.1 hz with hz | hz
    · exact hall z hz
    · simp only [List.mem_singleton] at hz
      rw [hz, hx']
      exact ⟨x, hxX, rfl, rfl, hsame⟩
  · rw [hl5, hleft, List.length_map, List.length_map, List.length_eraseIdx, if_pos hj']; omega
end
end
end Go.Proofs.YtijnmokpihhhcaaDoor

namespace Go.Proofs.YtijnmokpihhhcaaDoor
open Go
set_option linter.unusedVariables false
set_option linter.unusedSimpArgs false
set_option maxRecDepth 100000

section
variable {w0 w : World} {A : HP} {b c N C : Nat} {s : SD} {y : SX} {ov : Value} {cl : List (KD × Value)} {e : FA}
section
attribute [local go_sem] F31.t6_eq F31.t18_eq F31.t19_eq F31.t14_eq F31.t20_eq F31.t10_eq F31.t21_eq F31.t8_eq F31.t4_eq
theorem clone_t8 (ok : StoreOk s y) (hlk : ∀ k, lk k cl = lk k y.cl) (hd : e.ds = [{ target := .fn (.func 53) #[], args := #[.pointer (some ⟨b, 0, none⟩)] }]) (e0 : e.ρ 0 = .pointer (some ⟨b, 0, none⟩)) (e3 : e.ρ 3 = .pointer (some ⟨c, 0, none⟩))
    (h : St w0 (CloneC c s N ov C * (MapP encK C cl * (MapP encK y.C y.cl * (MapP encU N [] * (RowU ov (s.L.map (·.i.path)) * (StoreB b 1 (-1073741824) s y * (MapP encU y.N (y.X.map kv) * (RowU y.ov (s.L.map (·.i.path)) * (starL nodeP y.X * A))))))))) w) :
    cwE Tryd.prog F31.t8 (fnM Tryd.prog #[.tmp 2] fun e w' => ∃ b', St w0 (StoreP b' 0 0 s * (StoreP b 0 0 s * A)) w' ∧ e = .returned (.pointer (some ⟨b', 0, none⟩))) e w := by
  rw [F31.t8_eq]
  have hks : ∀ x ∈ y.X, x.ks.length ≤ 1000000 := fun x hx => by
    rw [ok.kids x hx]
    have h1 := kids_len s.L x.d.i.path
    have h2 := ok.wf.few
    have h3 := ok.wf.most
    omega
  obtain ⟨Mc, hMc⟩ : ∃ Mc, Mc = MapP encK C cl := ⟨_, rfl⟩
  obtain ⟨My, hMy⟩ : ∃ My, My = MapP encK y.C y.cl := ⟨_, rfl⟩
  rw [← hMc, ← hMy] at h
  simp -dsimp -implicitDefEqProofs (disch := omega) only [go_sem, reqD_of, dec_t, dec_f, wrap_i64, wrap_u32, wrap_u64, wrap_u8, e0, h.cl b]
  refine h.rangeH (b := y.N) Tryd.underlying93 fun r w1 h1 => ?_
  simp -dsimp -implicitDefEqProofs (disch := omega) only [go_sem, reqD_of, dec_t, dec_f, wrap_i64, wrap_u32, wrap_u64, wrap_u8]
  refine clone_loop2 (b := b) (c := c) (r := r) (N := N) (C := C) (s := s) (ov := ov) (yN := y.N) (X := y.X) (B := Mc * (My * (RowU ov (s.L.map (·.i.path)) * (StoreB b 1 (-1073741824) s y * (RowU y.ov (s.L.map (·.i.path)) * A))))) (by simp -dsimp -implicitDefEqProofs only [go_sem, e0]) (by simp -dsimp -implicitDefEqProofs only [go_sem, e3]) (by simp -dsimp -implicitDefEqProofs only [go_sem]) ok.paths hks ok.bytes (h1.ac (by simp only [RowU, CloneC]; ac_rfl)) ?_
  rintro e1 w2 X' gd g3 hperm hall h2
  have gd : e1.ds = [{ target := .fn (.func 53) #[], args := #[.pointer (some ⟨b, 0, none⟩)] }] := by rw [gd]; simp -dsimp -implicitDefEqProofs only [go_sem, hd]
  simp -dsimp -implicitDefEqProofs (disch := omega) only [go_sem, reqD_of, dec_t, dec_f, wrap_i64, wrap_u32, wrap_u64, wrap_u8, gd, g3]
  have ok' : StoreOk s ⟨N, C, ov, X', cl⟩ := by
    refine ⟨ok.wf, hperm.trans ok.perm, fun x hx => ?_, fun x hx => ?_, fun dir nm => ?_⟩
    · obtain ⟨z, hz, e1, e2, _⟩ := hall x hx
      rw [e2, e1]; exact ok.kids z hz
    · obtain ⟨z, hz, e1, _, e3⟩ := hall x hx
      rw [e1]; exact e3.ok (ok.bytes z hz)
    · rw [hlk]; exact ok.child dir nm
  obtain ⟨Mn, hMn⟩ : ∃ Mn, Mn = MapP encU N (X'.map kv) := ⟨_, rfl⟩
  obtain ⟨Mm, hMm⟩ : ∃ Mm, Mm = MapP encU y.N (y.X.map kv) := ⟨_, rfl⟩
  rw [← hMn, ← hMm] at h2
  have h3 : St w0 (StoreQ b 1 (-1073741824) s y * (StoreQ c 0 0 s ⟨N, C, ov, X', cl⟩ * A)) w2 := by
    show St w0 ((StoreB b 1 (-1073741824) s y * (MapP encU y.N (y.X.map kv) * (MapP encK y.C y.cl * (RowU y.ov (s.L.map (·.i.path)) * starL nodeP y.X)))) * ((CloneC c s N ov C * (MapP encU N (X'.map kv) * (MapP encK C cl * (RowU ov (s.L.map (·.i.path)) * starL nodeP X')))) * A)) w2
    rw [← hMn, ← hMm, ← hMc, ← hMy]
    exact h2.ac (by simp only [RowU]; ac_rfl)
  refine wunlockS h3 fun w3 h4 => ?_
  refine endT1 ⟨c, ?_, by simp -dsimp -implicitDefEqProofs only [go_sem]⟩
  exact (h4.sw2).ent (Ent.sep (StoreP.shut ok') (Ent.sep (StoreP.shut ok) (Ent.rfl' _)))
end
end

section
variable {w0 w : World} {A : HP} {b : Nat} {s : SD}
section
attribute [local go_sem] F31.t6_eq F31.t18_eq F31.t19_eq F31.t14_eq F31.t20_eq F31.t10_eq F31.t21_eq F31.t4_eq
set_option maxHeartbeats 4000000 in
theorem clone_any (h : St w0 (StoreP b 0 0 s * A) w) :
    Calls Tryd.prog 31 #[.pointer (some ⟨b, 0, none⟩)] w fun e w' => ∃ b', St w0 (StoreP b' 0 0 s * (StoreP b 0 0 s * A)) w' ∧ e = .returned (.pointer (some ⟨b', 0, none⟩)) := by
  obtain ⟨y, ok, h⟩ := h.storeO
  refine calls_of_cwM (types := Tryd.prog.types) follows Tryd.func31 F31.code rfl (by kernel_rfl) (by show 1 ≤ 105; decide) ?_
  show cwE _ _ (fnM _ #[.tmp 2] _) _ _
  unfold F31.code
  have hlen : (s.L.map (·.i.path)).length ≤ 1000000 := by rw [List.length_map]; have := ok.wf.few; have := ok.wf.most; omega
  simp -dsimp -implicitDefEqProofs (disch := omega) only [go_sem, reqD_of, dec_t, dec_f, wrap_i64, wrap_u32, wrap_u64, wrap_u8]
  refine (wlockS h).mono ?_
  rintro e w1 ⟨h1, rfl⟩
  have hnd := h1.mapNodup y.C
  simp -dsimp -implicitDefEqProofs (disch := omega) only [go_sem, reqD_of, dec_t, dec_f, wrap_i64, wrap_u32, wrap_u64, wrap_u8]
  refine deferF_of ?_
  have hd1 := h1.drew
  simp -dsimp -implicitDefEqProofs (disch := omega) only [go_sem, reqD_of, dec_t, dec_f, wrap_i64, wrap_u32, wrap_u64, wrap_u8, h1.cl b, hd1.cl b]
  refine ⟨?_, ?_⟩
  · skip
    refine St.makeMap (enc := encU) hd1 fun N w2 h2 => ?_
    simp -dsimp -implicitDefEqProofs (disch := omega) only [go_sem, reqD_of, dec_t, dec_f, wrap_i64, wrap_u32, wrap_u64, wrap_u8, h2.cl b]
    refine ⟨?_, ?_⟩
    · skip
      refine (cloneU_any (l := s.L.map (·.i.path)) ((Ent.right _ _).trans ((Ent.left _ _).trans ((Ent.right _ _).trans ((Ent.right _ _).trans ((Ent.right _ _).trans ((Ent.left _ _).trans (RowO.reads _ _ _ _ _))))))) hlen h2).mono ?_
      rintro e' w3 ⟨ov, h3, rfl⟩
      simp -dsimp -implicitDefEqProofs (disch := omega) only [go_sem, reqD_of, dec_t, dec_f, wrap_i64, wrap_u32, wrap_u64, wrap_u8, h3.cl b]
      refine St.makeMap (enc := encK) h3 fun C w4 h4 => ?_
      obtain ⟨ao, co, rfl, _⟩ := h4.rowForm ov
      simp -dsimp -implicitDefEqProofs (disch := omega) only [go_sem, reqD_of, dec_t, dec_f, wrap_i64, wrap_u32, wrap_u64, wrap_u8, h4.cl b]
      refine onV_of (v := .agg (storeC 0 0 s.most s.next (.map (some N)) (.slice ao (s.L.map (·.i.path)).length co) (.map (some C)))) (by kernel_rfl) ?_
      simp -dsimp -implicitDefEqProofs (disch := omega) only [go_sem, reqD_of, dec_t, dec_f, wrap_i64, wrap_u32, wrap_u64, wrap_u8, h4.cl b]
      refine h4.new fun c w5 h5 => ?_
      simp -dsimp -implicitDefEqProofs (disch := omega) only [go_sem, reqD_of, dec_t, dec_f, wrap_i64, wrap_u32, wrap_u64, wrap_u8, h5.cl b]
      refine h5.rangeH (b := y.C) Tryd.underlying94 fun r w6 h6 => ?_
      simp -dsimp -implicitDefEqProofs (disch := omega) only [go_sem, reqD_of, dec_t, dec_f, wrap_i64, wrap_u32, wrap_u64, wrap_u8]
      refine clone_loop1 (b := b) (c := c) (s := s) (N := N) (C := C) (r := r) (ov := .slice ao (s.L.map (·.i.path)).length co) (cl := y.cl) (yC := y.C) (B := MapP encU N [] * (RowU (.slice ao (s.L.map (·.i.path)).length co) (s.L.map (·.i.path)) * (StoreB b 1 (-1073741824) s y * (MapP encU y.N (y.X.map kv) * (RowU y.ov (s.L.map (·.i.path)) * (starL nodeP y.X * A)))))) (by simp -dsimp -implicitDefEqProofs only [go_sem]) (by simp -dsimp -implicitDefEqProofs only [go_sem]) (by simp -dsimp -implicitDefEqProofs only [go_sem]) hnd (h6.ac (by simp only [RowU, CloneC]; ac_rfl)) ?_
      rintro e1 w7 cl' gd g0 g3 hlk h7
      simp -dsimp -implicitDefEqProofs (disch := omega) only [go_sem, reqD_of, dec_t, dec_f, wrap_i64, wrap_u32, wrap_u64, wrap_u8]
      exact clone_t8 ok hlk (by rw [gd]; simp -dsimp -implicitDefEqProofs only [go_sem]) g0 g3 h7
    · skip
      refine St.makeMap (enc := encK) h2 fun C w3 h3 => ?_
      simp -dsimp -implicitDefEqProofs (disch := omega) only [go_sem, reqD_of, dec_t, dec_f, wrap_i64, wrap_u32, wrap_u64, wrap_u8, h3.cl b]
      refine (cloneU_any (l := s.L.map (·.i.path)) ((Ent.right _ _).trans ((Ent.right _ _).trans ((Ent.left _ _).trans ((Ent.right _ _).trans ((Ent.right _ _).trans ((Ent.right _ _).trans ((Ent.left _ _).trans (RowO.reads _ _ _ _ _)))))))) hlen h3).mono ?_
      rintro e' w4 ⟨ov, h4, rfl⟩
      obtain ⟨ao, co, rfl, _⟩ := h4.rowForm ov
      simp -dsimp -implicitDefEqProofs (disch := omega) only [go_sem, reqD_of, dec_t, dec_f, wrap_i64, wrap_u32, wrap_u64, wrap_u8, h4.cl b]
      refine onV_of (v := .agg (storeC 0 0 s.most s.next (.map (some N)) (.slice ao (s.L.map (·.i.path)).length co) (.map (some C)))) (by kernel_rfl) ?_
      simp -dsimp -implicitDefEqProofs (disch := omega) only [go_sem, reqD_of, dec_t, dec_f, wrap_i64, wrap_u32, wrap_u64, wrap_u8, h4.cl b]
      refine h4.new fun c w5 h5 => ?_
      simp -dsimp -implicitDefEqProofs (disch := omega) only [go_sem, reqD_of, dec_t, dec_f, wrap_i64, wrap_u32, wrap_u64, wrap_u8, h5.cl b]
      refine h5.rangeH (b := y.C) Tryd.underlying94 fun r w6 h6 => ?_
      simp -dsimp -implicitDefEqProofs (disch := omega) only [go_sem, reqD_of, dec_t, dec_f, wrap_i64, wrap_u32, wrap_u64, wrap_u8]
      refine clone_loop1 (b := b) (c := c) (s := s) (N := N) (C := C) (r := r) (ov := .slice ao (s.L.map (·.i.path)).length co) (cl := y.cl) (yC := y.C) (B := MapP encU N [] * (RowU (.slice ao (s.L.map (·.i.path)).length co) (s.L.map (·.i.path)) * (StoreB b 1 (-1073741824) s y * (MapP encU y.N (y.X.map kv) * (RowU y.ov (s.L.map (·.i.path)) * (starL nodeP y.X * A)))))) (by simp -dsimp -implicitDefEqProofs only [go_sem]) (by simp -dsimp -implicitDefEqProofs only [go_sem]) (by simp -dsimp -implicitDefEqProofs only [go_sem]) hnd (h6.ac (by simp only [RowU, CloneC]; ac_rfl)) ?_
      rintro e1 w7 cl' gd g0 g3 hlk h7
      simp -dsimp -implicitDefEqProofs (disch := omega) only [go_sem, reqD_of, dec_t, dec_f, wrap_i64, wrap_u32, wrap_u64, wrap_u8]
      exact clone_t8 ok hlk (by rw [gd]; simp -dsimp -implicitDefEqProofs only [go_sem]) g0 g3 h7
  · skip
    refine ⟨?_, ?_⟩
    · skip
      refine (cloneU_any (l := s.L.map (·.i.path)) ((Ent.left _ _).trans ((Ent.right _ _).trans ((Ent.right _ _).trans ((Ent.right _ _).trans ((Ent.left _ _).trans (RowO.reads _ _ _ _ _)))))) hlen hd1).mono ?_
      rintro e' w2 ⟨ov, h2, rfl⟩
      simp -dsimp -implicitDefEqProofs (disch := omega) only [go_sem, reqD_of, dec_t, dec_f, wrap_i64, wrap_u32, wrap_u64, wrap_u8, h2.cl b]
      refine ⟨?_, ?_⟩
      · skip
        refine St.makeMap (enc := encU) h2 fun N w3 h3 => ?_
        simp -dsimp -implicitDefEqProofs (disch := omega) only [go_sem, reqD_of, dec_t, dec_f, wrap_i64, wrap_u32, wrap_u64, wrap_u8, h3.cl b]
        refine St.makeMap (enc := encK) h3 fun C w4 h4 => ?_
        obtain ⟨ao, co, rfl, _⟩ := h4.rowForm ov
        simp -dsimp -implicitDefEqProofs (disch := omega) only [go_sem, reqD_of, dec_t, dec_f, wrap_i64, wrap_u32, wrap_u64, wrap_u8, h4.cl b]
        refine onV_of (v := .agg (storeC 0 0 s.most s.next (.map (some N)) (.slice ao (s.L.map (·.i.path)).length co) (.map (some C)))) (by kernel_rfl) ?_
        simp -dsimp -implicitDefEqProofs (disch := omega) only [go_sem, reqD_of, dec_t, dec_f, wrap_i64, wrap_u32, wrap_u64, wrap_u8, h4.cl b]
        refine h4.new fun c w5 h5 => ?_
        simp -dsimp -implicitDefEqProofs (disch := omega) only [go_sem, reqD_of, dec_t, dec_f, wrap_i64, wrap_u32, wrap_u64, wrap_u8, h5.cl b]
        refine h5.rangeH (b := y.C) Tryd.underlying94 fun r w6 h6 => ?_
        simp -dsimp -implicitDefEqProofs (disch := omega) only [go_sem, reqD_of, dec_t, dec_f, wrap_i64, wrap_u32, wrap_u64, wrap_u8]
        refine clone_loop1 (b := b) (c := c) (s := s) (N := N) (C := C) (r := r) (ov := .slice ao (s.L.map (·.i.path)).length co) (cl := y.cl) (yC := y.C) (B := MapP encU N [] * (RowU (.slice ao (s.L.map (·.i.path)).length co) (s.L.map (·.i.path)) * (StoreB b 1 (-1073741824) s y * (MapP encU y.N (y.X.map kv) * (RowU y.ov (s.L.map (·.i.path)) * (starL nodeP y.X * A)))))) (by simp -dsimp -implicitDefEqProofs only [go_sem]) (by simp -dsimp -implicitDefEqProofs only [go_sem]) (by simp -dsimp -implicitDefEqProofs only [go_sem]) hnd (h6.ac (by simp only [RowU, CloneC]; ac_rfl)) ?_
        rintro e1 w7 cl' gd g0 g3 hlk h7
        simp -dsimp -implicitDefEqProofs (disch := omega) only [go_sem, reqD_of, dec_t, dec_f, wrap_i64, wrap_u32, wrap_u64, wrap_u8]
        exact clone_t8 ok hlk (by rw [gd]; simp -dsimp -implicitDefEqProofs only [go_sem]) g0 g3 h7
      · skip
        refine St.makeMap (enc := encK) h2 fun C w3 h3 => ?_
        simp -dsimp -implicitDefEqProofs (disch := omega) only [go_sem, reqD_of, dec_t, dec_f, wrap_i64, wrap_u32, wrap_u64, wrap_u8, h3.cl b]
        refine St.makeMap (enc := encU) h3 fun N w4 h4 => ?_
        obtain ⟨ao, co, rfl, _⟩ := h4.rowForm ov
        simp -dsimp -implicitDefEqProofs (disch := omega) only [go_sem, reqD_of, dec_t, dec_f, wrap_i64, wrap_u32, wrap_u64, wrap_u8, h4.cl b]
        refine onV_of (v := .agg (storeC 0 0 s.most s.next (.map (some N)) (.slice ao (s.L.map (·.i.path)).length co) (.map (some C)))) (by kernel_rfl) ?_
        simp -dsimp -implicitDefEqProofs (disch := omega) only [go_sem, reqD_of, dec_t, dec_f, wrap_i64, wrap_u32, wrap_u64, wrap_u8, h4.cl b]
        refine h4.new fun c w5 h5 => ?_
        simp -dsimp -implicitDefEqProofs (disch := omega) only [go_sem, reqD_of, dec_t, dec_f, wrap_i64, wrap_u32, wrap_u64, wrap_u8, h5.cl b]
        refine h5.rangeH (b := y.C) Tryd.underlying94 fun r w6 h6 => ?_
        simp -dsimp -implicitDefEqProofs (disch := omega) only [go_sem, reqD_of, dec_t, dec_f, wrap_i64, wrap_u32, wrap_u64, wrap_u8]
        refine clone_loop1 (b := b) (c := c) (s := s) (N := N) (C := C) (r := r) (ov := .slice ao (s.L.map (·.i.path)).length co) (cl := y.cl) (yC := y.C) (B := MapP encU N [] * (RowU (.slice ao (s.L.map (·.i.path)).length co) (s.L.map (·.i.path)) * (StoreB b 1 (-1073741824) s y * (MapP encU y.N (y.X.map kv) * (RowU y.ov (s.L.map (·.i.path)) * (starL nodeP y.X * A)))))) (by simp -dsimp -implicitDefEqProofs only [go_sem]) (by simp -dsimp -implicitDefEqProofs only [go_sem]) (by simp -dsimp -implicitDefEqProofs only [go_sem]) hnd (h6.ac (by simp only [RowU, CloneC]; ac_rfl)) ?_
        rintro e1 w7 cl' gd g0 g3 hlk h7
        simp -dsimp -implicitDefEqProofs (disch := omega) only [go_sem, reqD_of, dec_t, dec_f, wrap_i64, wrap_u32, wrap_u64, wrap_u8]
        exact clone_t8 ok hlk (by rw [gd]; simp -dsimp -implicitDefEqProofs only [go_sem]) g0 g3 h7
    · skip
      refine St.makeMap (enc := encK) hd1 fun C w2 h2 => ?_
      simp -dsimp -implicitDefEqProofs (disch := omega) only [go_sem, reqD_of, dec_t, dec_f, wrap_i64, wrap_u32, wrap_u64, wrap_u8, h2.cl b]
      refine ⟨?_, ?_⟩
      · skip
        refine St.makeMap (enc := encU) h2 fun N w3 h3 => ?_
        simp -dsimp -implicitDefEqProofs (disch := omega) only [go_sem, reqD_of, dec_t, dec_f, wrap_i64, wrap_u32, wrap_u64, wrap_u8, h3.cl b]
        refine (cloneU_any (l := s.L.map (·.i.path)) ((Ent.right _ _).trans ((Ent.right _ _).trans ((Ent.left _ _).trans ((Ent.right _ _).trans ((Ent.right _ _).trans ((Ent.right _ _).trans ((Ent.left _ _).trans (RowO.reads _ _ _ _ _)))))))) hlen h3).mono ?_
        rintro e' w4 ⟨ov, h4, rfl⟩
        obtain ⟨ao, co, rfl, _⟩ := h4.rowForm ov
        simp -dsimp -implicitDefEqProofs (disch := omega) only [go_sem, reqD_of, dec_t, dec_f, wrap_i64, wrap_u32, wrap_u64, wrap_u8, h4.cl b]
        refine onV_of (v := .agg (storeC 0 0 s.most s.next (.map (some N)) (.slice ao (s.L.map (·.i.path)).length co) (.map (some C)))) (by kernel_rfl) ?_
        simp -dsimp -implicitDefEqProofs (disch := omega) only [go_sem, reqD_of, dec_t, dec_f, wrap_i64, wrap_u32, wrap_u64, wrap_u8, h4.cl b]
        refine h4.new fun c w5 h5 => ?_
        simp -dsimp -implicitDefEqProofs (disch := omega) only [go_sem, reqD_of, dec_t, dec_f, wrap_i64, wrap_u32, wrap_u64, wrap_u8, h5.cl b]
        refine h5.rangeH (b := y.C) Tryd.underlying94 fun r w6 h6 => ?_
        simp -dsimp -implicitDefEqProofs (disch := omega) only [go_sem, reqD_of, dec_t, dec_f, wrap_i64, wrap_u32, wrap_u64, wrap_u8]
        refine clone_loop1 (b := b) (c := c) (s := s) (N := N) (C := C) (r := r) (ov := .slice ao (s.L.map (·.i.path)).length co) (cl := y.cl) (yC := y.C) (B := MapP encU N [] * (RowU (.slice ao (s.L.map (·.i.path)).length co) (s.L.map (·.i.path)) * (StoreB b 1 (-1073741824) s y * (MapP encU y.N (y.X.map kv) * (RowU y.ov (s.L.map (·.i.path)) * (starL nodeP y.X * A)))))) (by simp -dsimp -implicitDefEqProofs only [go_sem]) (by simp -dsimp -implicitDefEqProofs only [go_sem]) (by simp -dsimp -implicitDefEqProofs only [go_sem]) hnd (h6.ac (by simp only [RowU, CloneC]; ac_rfl)) ?_
        rintro e1 w7 cl' gd g0 g3 hlk h7
        simp -dsimp -implicitDefEqProofs (disch := omega) only [go_sem, reqD_of, dec_t, dec_f, wrap_i64, wrap_u32, wrap_u64, wrap_u8]
        exact clone_t8 ok hlk (by rw [gd]; simp -dsimp -implicitDefEqProofs only [go_sem]) g0 g3 h7
      · skip
        refine (cloneU_any (l := s.L.map (·.i.path)) ((Ent.right _ _).trans ((Ent.left _ _).trans ((Ent.right _ _).trans ((Ent.right _ _).trans ((Ent.right _ _).trans ((Ent.left _ _).trans (RowO.reads _ _ _ _ _))))))) hlen h2).mono ?_
        rintro e' w3 ⟨ov, h3, rfl⟩
        simp -dsimp -implicitDefEqProofs (disch := omega) only [go_sem, reqD_of, dec_t, dec_f, wrap_i64, wrap_u32, wrap_u64, wrap_u8, h3.cl b]
        refine St.makeMap (enc := encU) h3 fun N w4 h4 => ?_
        obtain ⟨ao, co, rfl, _⟩ := h4.rowForm ov
        simp -dsimp -implicitDefEqProofs (disch := omega) only [go_sem, reqD_of, dec_t, dec_f, wrap_i64, wrap_u32, wrap_u64, wrap_u8, h4.cl b]
        refine onV_of (v := .agg (storeC 0 0 s.most s.next (.map (some N)) (.slice ao (s.L.map (·.i.path)).length co) (.map (some C)))) (by kernel_rfl) ?_
        simp -dsimp -implicitDefEqProofs (disch := omega) only [go_sem, reqD_of, dec_t, dec_f, wrap_i64, wrap_u32, wrap_u64, wrap_u8, h4.cl b]
        refine h4.new fun c w5 h5 => ?_
        simp -dsimp -implicitDefEqProofs (disch := omega) only [go_sem, reqD_of, dec_t, dec_f, wrap_i64, wrap_u32, wrap_u64, wrap_u8, h5.cl b]
        refine h5.rangeH (b := y.C) Tryd.underlying94 fun r w6 h6 => ?_
        simp -dsimp -implicitDefEqProofs (disch := omega) only [go_sem, reqD_of, dec_t, dec_f, wrap_i64, wrap_u32, wrap_u64, wrap_u8]
        refine clone_loop1 (b := b) (c := c) (s := s) (N := N) (C := C) (r := r) (ov := .slice ao (s.L.map (·.i.path)).length co) (cl := y.cl) (yC := y.C) (B := MapP encU N [] * (RowU (.slice ao (s.L.map (·.i.path)).length co) (s.L.map (·.i.path)) * (StoreB b 1 (-1073741824) s y * (MapP encU y.N (y.X.map kv) * (RowU y.ov (s.L.map (·.i.path)) * (starL nodeP y.X * A)))))) (by simp -dsimp -implicitDefEqProofs only [go_sem]) (by simp -dsimp -implicitDefEqProofs only [go_sem]) (by simp -dsimp -implicitDefEqProofs only [go_sem]) hnd (h6.ac (by simp only [RowU, CloneC]; ac_rfl)) ?_
        rintro e1 w7 cl' gd g0 g3 hlk h7
        simp -dsimp -implicitDefEqProofs (disch := omega) only [go_sem, reqD_of, dec_t, dec_f, wrap_i64, wrap_u32, wrap_u64, wrap_u8]
        exact clone_t8 ok hlk (by rw [gd]; simp -dsimp -implicitDefEqProofs only [go_sem]) g0 g3 h7
end
end
end Go.Proofs.YtijnmokpihhhcaaDoor

namespace Go.Proofs.YtijnmokpihhhcaaDoor
open Go
set_option linter.unusedVariables false
set_option linter.unusedSimpArgs false
set_option maxRecDepth 100000

section
variable {w0 w : World} {A : HP} {b b2 : Nat} {s t : SD}
theorem infL_len (i : Inf) : (infL i).length = 13 := rfl
section
attribute [local go_sem] F32.t5_eq F32.t3_eq F32.t4_eq F32.t9_eq
theorem same_any {a : Option Addr} {c : Nat} {l : List Inf} {p : Nat} (hr : Ent A (Reads 13 (.slice a l.length c) l.length (l.flatMap infL))) (hl : l.length ≤ 1000000) (heq : ∀ x ∈ l, x.path ≠ p → readS s x.path 0 65536 = readS t x.path 0 65536)
    (h : St w0 (StoreP b 0 0 s * (StoreP b2 0 0 t * A)) w) :
    Calls Tryd.prog 32 #[.pointer (some ⟨b, 0, none⟩), .pointer (some ⟨b2, 0, none⟩), .slice a l.length c, .int .u64 p] w fun e w' => St w0 (StoreP b 0 0 s * (StoreP b2 0 0 t * A)) w' ∧ e = .returned (.bool true) := by
  refine F32.calls (by simp) ?_
  unfold F32.code
  simp -dsimp -implicitDefEqProofs (disch := omega) only [go_sem, reqD_of, dec_t, dec_f, wrap_i64, wrap_u32, wrap_u64, wrap_u8]
  refine loop_intro (fun e w' => e.ds = [] ∧ e.ρ 0 = .pointer (some ⟨b, 0, none⟩) ∧ e.ρ 1 = .pointer (some ⟨b2, 0, none⟩) ∧ e.ρ 2 = .slice a l.length c ∧ e.ρ 3 = .int .u64 p ∧ ∃ i : Nat, i ≤ l.length ∧ e.ρ 9 = .int .i64 i ∧ St w0 (StoreP b 0 0 s * (StoreP b2 0 0 t * A)) w')
    (fun e _ => match e.ρ 9 with | .int _ x => (l.length - x).toNat | _ => 0) ?_ ?_
  · exact ⟨by simp -dsimp -implicitDefEqProofs only [go_sem], by simp -dsimp -implicitDefEqProofs only [go_sem], by simp -dsimp -implicitDefEqProofs only [go_sem], by simp -dsimp -implicitDefEqProofs only [go_sem], by simp -dsimp -implicitDefEqProofs only [go_sem], 0, by omega, by simp -dsimp -implicitDefEqProofs only [go_sem], h⟩
  clear h
  rintro e w ⟨hd, e0, e1, e2, e3, i, hi, e9, h⟩
  by_cases hlt : (i : Int) < l.length
  case neg =>
    simp -dsimp -implicitDefEqProofs (disch := omega) only [go_sem, reqD_of, dec_t, dec_f, wrap_i64, wrap_u32, wrap_u64, wrap_u8, hd, e0, e1, e2, e3, e9, hlt]
    exact h
  have hil : i < l.length := by omega
  obtain ⟨x, hx⟩ : ∃ x, x = l[i] := ⟨_, rfl⟩
  have cellsAt : ∀ {w : World}, St w0 A w → ∃ g o, a = some ⟨g, o, none⟩ ∧ ∀ j, j < 13 → w.cell? ⟨g, o + i * 13 + j, none⟩ = (infL x)[j]? := fun h => by
    obtain ⟨_, a', c', hv, _, hat⟩ := St.rowsAt (enc := infL) (l := l) (k := 13) infL_len (by decide) (h.ent hr)
    simp only [Value.slice.injEq, true_and] at hv
    obtain ⟨rfl, rfl⟩ := hv
    obtain ⟨g, o, ha, _, hc⟩ := hat i hil
    exact ⟨g, o, ha, by rw [hx]; exact hc⟩
  obtain ⟨g, o, rfl, hc⟩ := cellsAt h.right.right
  have p0 : w.cell? ⟨g, o + i * 13, none⟩ = some (.int .u64 x.path) := hc 0 (by decide)
  by_cases hp : (x.path : Int) = p
  · simp -dsimp -implicitDefEqProofs (disch := omega) only [go_sem, reqD_of, dec_t, dec_f, wrap_i64, wrap_u32, wrap_u64, wrap_u8, hd, e0, e1, e2, e3, e9, hlt, p0, hp]
    exact ⟨⟨i + 1, by omega, by omega, h⟩, by omega⟩
  have he := heq x (by rw [hx]; exact List.getElem_mem hil) (by omega)
  simp -dsimp -implicitDefEqProofs (disch := omega) only [go_sem, reqD_of, dec_t, dec_f, wrap_i64, wrap_u32, wrap_u64, wrap_u8, hd, e0, e1, e2, e3, e9, hlt, p0, hp]
  refine (sread_any (p := x.path) (off := 0) (k := 65536) h (by decide) (by decide)).mono ?_
  rintro e' w1 ⟨v1, h1, rfl⟩
  obtain ⟨a1, c1, rfl, _⟩ := h1.rowForm v1
  obtain ⟨g', o', ha, hc1⟩ := cellsAt h1.right.right.right
  simp only [Option.some.injEq, Addr.mk.injEq, and_true] at ha
  obtain ⟨rfl, rfl⟩ := ha
  have p1 : w1.cell? ⟨g, o + i * 13, none⟩ = some (.int .u64 x.path) := hc1 0 (by decide)
  simp -dsimp -implicitDefEqProofs (disch := omega) only [go_sem, reqD_of, dec_t, dec_f, wrap_i64, wrap_u32, wrap_u64, wrap_u8, hd, e0, e1, e2, e3, e9, hlt, p1, hp]
  refine (sread_any (p := x.path) (off := 0) (k := 65536) h1.sw3 (by decide) (by decide)).mono ?_
  rintro e' w2 ⟨v2, h2, rfl⟩
  rw [← he] at h2
  obtain ⟨a2, c2, rfl, _⟩ := h2.rowForm v2
  simp -dsimp -implicitDefEqProofs (disch := omega) only [go_sem, reqD_of, dec_t, dec_f, wrap_i64, wrap_u32, wrap_u64, wrap_u8, hd, e0, e1, e2, e3, e9]
  refine St.str (bs := readS s x.path 0 65536) h2 ((Ent.right _ _).trans ((Ent.right _ _).trans ((Ent.left _ _).trans (RowO.reads _ _ _ _ _)))) Tryd.underlying51 Tryd.underlying5 Tryd.underlying9 ?_
  simp -dsimp -implicitDefEqProofs (disch := omega) only [go_sem, reqD_of, dec_t, dec_f, wrap_i64, wrap_u32, wrap_u64, wrap_u8, hd, e0, e1, e2, e3, e9]
  refine St.str (bs := readS s x.path 0 65536) h2 ((Ent.left _ _).trans (RowO.reads _ _ _ _ _)) Tryd.underlying51 Tryd.underlying5 Tryd.underlying9 ?_
  simp -dsimp -implicitDefEqProofs (disch := omega) only [go_sem, reqD_of, dec_t, dec_f, wrap_i64, wrap_u32, wrap_u64, wrap_u8, hd, e0, e1, e2, e3, e9]
  exact ⟨⟨i + 1, by omega, by omega, h2.right.drop2.sw2⟩, by omega⟩
end
end
end Go.Proofs.YtijnmokpihhhcaaDoor

namespace Go.Proofs.YtijnmokpihhhcaaDoor
open Go
set_option linter.unusedVariables false
set_option linter.unusedSimpArgs false

/-- What an operation that neither makes nor drops makes of its node. -/
def calmF (s : SD) (o : OpD) : Except Nat NodeD :=
  if o.kind < 1 ∨ 7 < o.kind then .error 1
  else match findN s.L o.path with
    | none => .error 80
    | some n =>
      if o.kind = 3 then
        if n.i.path = 1 then .error 81
        else if !okName o.name then .error 50
        else match childF s.L n.i.parent o.name with
          | some q => if q = n.i.path then .ok ⟨{ n.i with name := o.name }, n.b⟩ else .error 82
          | none => .ok ⟨{ n.i with name := o.name }, n.b⟩
      else if o.kind = 4 then infoF n (setF o.mask o.node n.i)
      else if o.kind = 5 then cutF o.offset n
      else if o.kind = 6 then bytesF o.offset o.data n
      else infoF n (opensF o.n n.i)
theorem calm_do {s : SD} {o : OpD} (h : Wf s) (hc : o.kind ≠ 1 ∧ o.kind ≠ 2) : doF s o = oneF s o.path (calmF s o) := by
  unfold doF calmF
  split
  · rfl
  cases hf : findN s.L o.path with
  | none => rfl
  | some n =>
    obtain ⟨hn, hp⟩ := find_some hf
    simp only
    rw [if_neg hc.1, if_neg hc.2]
    by_cases h3 : o.kind = 3
    · rw [if_pos h3, if_pos h3]
      unfold callF
      by_cases h4 : n.i.path = 1
      · rw [if_pos h4, if_pos h4]; rfl
      rw [if_neg h4, if_neg h4]
      by_cases h5 : (!okName o.name) = true
      · rw [if_pos h5, if_pos h5]; rfl
      rw [if_neg h5, if_neg h5]
      have hu := upd_fun h.rise hn (fun n => ⟨{ n.i with name := o.name }, n.b⟩)
      rw [hu]
      cases childF s.L n.i.parent o.name with
      | none => simp only; rw [hp]; rfl
      | some q =>
        simp only
        split
        · rw [hp]; rfl
        · rfl
    · rw [if_neg h3, if_neg h3]
      split
      · rfl
      split
      · rfl
      split
      · rfl
      · rfl
theorem calm_ok {s : SD} {o : OpD} (h : Wf s) (ho : OpOk o) {n' : NodeD} (hr : calmF s o = .ok n') : ∃ n, n ∈ s.L ∧ n.i.path = o.path ∧ Keeps n n' ∧ (o.kind ≠ 3 → n'.i.name = n.i.name) := by
  unfold calmF at hr
  split at hr
  · cases hr
  cases hf : findN s.L o.path with
  | none => rw [hf] at hr; cases hr
  | some n =>
    rw [hf] at hr
    obtain ⟨hn, hp⟩ := find_some hf
    have ok := h.ok n hn
    simp only at hr
    refine ⟨n, hn, hp, ?_⟩
    split at hr
    · rename_i h3
      split at hr
      · cases hr
      split at hr
      · cases hr
      split at hr
      · split at hr
        · cases hr; exact ⟨⟨rfl, rfl, rfl⟩, fun e => absurd h3 e⟩
        · cases hr
      · cases hr; exact ⟨⟨rfl, rfl, rfl⟩, fun e => absurd h3 e⟩
    split at hr
    · obtain ⟨i, h1, rfl⟩ := info_ok hr
      obtain ⟨a, _, c⟩ := set_ok h1 ok ho.mode ho.atime ho.mtime
      exact ⟨a, fun _ => c⟩
    split at hr
    · obtain ⟨a, _, c⟩ := cut_ok hr ok
      exact ⟨a, fun _ => c⟩
    split at hr
    · obtain ⟨a, _, c⟩ := bytes_ok hr ok
      exact ⟨a, fun _ => c⟩
    · obtain ⟨i, h1, rfl⟩ := info_ok hr
      obtain ⟨a, _, c⟩ := opens_ok h1 ok
      exact ⟨a, fun _ => c⟩
/-- Another node is changed: the operation sees nothing of it. -/
theorem calm_frame {s : SD} {o : OpD} (h : Wf s) {n n' : NodeD} (hn : n ∈ s.L) (k : Keeps n n') (hq : o.path ≠ n.i.path) (hnm : o.kind = 3 → n'.i.name = n.i.name) :
    calmF { s with L := updN s.L n.i.path fun _ => n' } o = calmF s o := by
  unfold calmF
  simp only
  rw [find_upd k.path, if_neg hq]
  split
  · rfl
  cases hf : findN s.L o.path with
  | none => rfl
  | some m =>
    simp only
    by_cases h3 : o.kind = 3
    · rw [if_pos h3, if_pos h3, child_upd h.rise hn rfl k (hnm h3)]
    · rw [if_neg h3, if_neg h3]
theorem upd_comm {L : List NodeD} {p q : Nat} {a b : NodeD} (hpq : p ≠ q) (ha : a.i.path = p) (hb : b.i.path = q) : (updN (updN L p fun _ => a) q fun _ => b) = updN (updN L q fun _ => b) p fun _ => a := by
  unfold updN
  rw [List.map_map, List.map_map]
  refine List.map_congr_left fun x _ => ?_
  simp only [Function.comp]
  have hqp : ¬ q = p := fun e => hpq e.symm
  by_cases h1 : x.i.path = p
  · simp [h1, ha, hpq]
  · by_cases h2 : x.i.path = q
    · simp [h2, hb, hqp]
    · simp [h1, h2]
/-- The order does not matter. -/
theorem turns_law {s : SD} {a b : OpD} (h : Wf s) (oa : OpOk a) (ob : OpOk b) (ca : a.kind ≠ 1 ∧ a.kind ≠ 2) (cb : b.kind ≠ 1 ∧ b.kind ≠ 2) (hp : a.path ≠ b.path) (hn : ¬ (a.kind = 3 ∧ b.kind = 3)) :
    (doF (doF s a).1 b).2 = (doF s b).2 ∧ (doF (doF s b).1 a).2 = (doF s a).2 ∧ (doF (doF s a).1 b).1 = (doF (doF s b).1 a).1 := by
  have wa := do_wf h oa
  have wb := do_wf h ob
  rw [calm_do wa cb, calm_do wb ca]
  rw [calm_do h ca] at wa ⊢
  rw [calm_do h cb] at wb ⊢
  cases ra : calmF s a with
  | error e =>
    rw [ra] at wa
    cases rb : calmF s b with
    | error f => exact ⟨by simp [oneF, rb], by simp [oneF, ra], by simp [oneF, ra, rb]⟩
    | ok b' =>
      rw [rb] at wb
      obtain ⟨m, hm, hmp, km, nm⟩ := calm_ok h ob rb
      have fa : calmF { s with L := updN s.L b.path fun _ => b' } a = calmF s a := by
        rw [← hmp]
        exact calm_frame h hm km (by rw [hmp]; exact hp) fun e3 => nm fun e4 => hn ⟨e3, e4⟩
      simp only [oneF] at fa ⊢
      rw [rb, fa, ra]
      exact ⟨rfl, rfl, rfl⟩
  | ok a' =>
    rw [ra] at wa
    obtain ⟨n, hnn, hnp, kn, nn⟩ := calm_ok h oa ra
    have fb : calmF { s with L := updN s.L a.path fun _ => a' } b = calmF s b := by
      rw [← hnp]
      exact calm_frame h hnn kn (by rw [hnp]; exact fun e => hp e.symm) fun e3 => nn fun e4 => hn ⟨e4, e3⟩
    cases rb : calmF s b with
    | error f =>
      simp only [oneF] at fb ⊢
      rw [fb, rb, ra]
      exact ⟨rfl, rfl, rfl⟩
    | ok b' =>
      rw [rb] at wb
      obtain ⟨m, hm, hmp, km, nm⟩ := calm_ok h ob rb
      have fa : calmF { s with L := updN s.L b.path fun _ => b' } a = calmF s a := by
        rw [← hmp]
        exact calm_frame h hm km (by rw [hmp]; exact hp) fun e3 => nm fun e4 => hn ⟨e3, e4⟩
      simp only [oneF] at fa fb ⊢
      rw [fb, fa, ra, rb]
      refine ⟨rfl, rfl, ?_⟩
      simp only
      rw [upd_comm hp (kn.path.trans hnp) (km.path.trans hmp)]
end Go.Proofs.YtijnmokpihhhcaaDoor

namespace Go.Proofs.YtijnmokpihhhcaaDoor
open Go
set_option linter.unusedVariables false
set_option linter.unusedSimpArgs false
set_option maxRecDepth 100000

theorem OpA.up {A B : HP} {x : OpV} (h : OpA A x) (hE : Ent B A) : OpA B x := ⟨h.kind, h.mask, h.offset, h.mode, h.atime, h.mtime, h.n0, h.n1, hE.trans h.data, h.form, h.wt⟩
theorem OpsP.up {A B : HP} {v : Value} {ops : List OpV} (h : OpsP A v ops) (hE : Ent B A) : OpsP B v ops := ⟨hE.trans h.rd, fun x hx => (h.each x hx).up hE, h.few⟩
theorem OpA.ok {A : HP} {x : OpV} (h : OpA A x) : OpOk x.o := ⟨h.mode, h.atime, h.mtime⟩
/-- Two lists that read alike, at a place. -/
theorem St.nodeAt {w0 w : World} {A : HP} (h : St w0 A w) {a : Option Addr} {c : Nat} {l : List Inf} (hr : Ent A (Reads 13 (.slice a l.length c) l.length (l.flatMap infL))) {i : Nat} (hi : i < l.length) :
    ∃ g o, a = some ⟨g, o, none⟩ ∧ rowV w ⟨g, o + i * 13, none⟩ 13 = some (.agg (infL l[i]).toArray) ∧ ∀ j, j < 13 → w.cell? ⟨g, o + i * 13 + j, none⟩ = (infL l[i])[j]? := by
  obtain ⟨_, a', c', hv, _, hat⟩ := St.rowsAt (enc := infL) (l := l) (k := 13) infL_len (by decide) (h.ent hr)
  simp only [Value.slice.injEq, true_and] at hv
  obtain ⟨rfl, rfl⟩ := hv
  exact hat i hi
abbrev opW (B : Nat) (x : OpV) : HP := Blk B (.cells (opVL x).toArray 53 (0, 0))

section
variable {w0 w : World} {A : HP} {xa xb : OpV} {ops : List OpV} {a : Option Addr} {c B1 B2 : Nat} {e : FA}
section
attribute [local go_sem] F9.t24_eq F9.t25_eq F9.t27_eq F9.t22_eq F9.t14_eq F9.t11_eq F9.t4_eq
theorem turns_t8 [Gives A Tabs] (hP : OpsP A (.slice a ops.length c) ops) (oa : OpA A xa) (ob : OpA A xb) (hw : wtO xa.o + wtO xb.o + wtL ops ≤ 8388608) (ca : xa.o.kind ≠ 1 ∧ xa.o.kind ≠ 2) (cb : xb.o.kind ≠ 1 ∧ xb.o.kind ≠ 2) (hp : xa.o.path ≠ xb.o.path) (hn : ¬ (xa.o.kind = 3 ∧ xb.o.kind = 3))
    (hd : e.ds = []) (e0 : e.ρ 0 = .slice a ops.length c) (e4 : e.ρ 4 = .pointer (some ⟨B1, 0, none⟩)) (e5 : e.ρ 5 = .pointer (some ⟨B2, 0, none⟩)) (e7 : e.ρ 7 = .bool true)
    (h : St w0 (opW B2 xb * (opW B1 xa * A)) w) :
    cwE Tryd.prog F9.t8 (fnP Tryd.prog #[.tmp 6] fun e w' => St w0 A w' ∧ e = .returned (.bool true)) e w := by
  rw [F9.t8_eq]
  have hE : Ent (opW B2 xb * (opW B1 xa * A)) A := (Ent.right _ _).trans (Ent.right _ _)
  haveI : Gives (opW B2 xb * (opW B1 xa * A)) (RdB xa.v xa.o.data) := ⟨hE.trans oa.data⟩
  haveI : Gives (opW B2 xb * (opW B1 xa * A)) (RdB xb.v xb.o.data) := ⟨hE.trans ob.data⟩
  obtain ⟨S, hS⟩ : ∃ S, S = runF (storeF 100) ops := ⟨_, rfl⟩
  have wS : Wf S := by rw [hS]; exact run_wf (store_wf (by decide)) hP.each
  have nS : S.next ≤ 83888 := by
    have h1 := run_next (storeF 100) ops
    have h2 : (storeF 100).next = 2 := rfl
    have h3 := wt_len ops
    rw [hS]; omega
  have wa := do_wf wS oa.ok
  have wb := do_wf wS ob.ok
  have na := do_next S xa.o
  have nb := do_next S xb.o
  obtain ⟨q1, q2, q3⟩ := turns_law wS oa.ok ob.ok ca cb hp hn
  simp -dsimp -implicitDefEqProofs (disch := omega) only [go_sem, reqD_of, dec_t, dec_f, wrap_i64, wrap_u32, wrap_u64, wrap_u8, hd, e0, e4, e5, e7]
  refine (grown_any (hP.up hE) (by omega) h).mono ?_
  rintro e' w1 ⟨b, h1, rfl⟩
  rw [← hS] at h1
  simp -dsimp -implicitDefEqProofs (disch := omega) only [go_sem, reqD_of, dec_t, dec_f, wrap_i64, wrap_u32, wrap_u64, wrap_u8, hd, e0, e4, e5, e7]
  refine (clone_any h1).mono ?_
  rintro e' w2 ⟨b1, h2, rfl⟩
  have h2 := h2.sw2
  simp -dsimp -implicitDefEqProofs (disch := omega) only [go_sem, reqD_of, dec_t, dec_f, wrap_i64, wrap_u32, wrap_u64, wrap_u8, hd, e0, e4, e5, e7, h2.rowH B1 20 rfl]
  refine (do_any (o := xa.o) (vd := xa.v) (oa.in_ (by omega)) oa.kind (by omega) h2).mono ?_
  rintro e' w3 ⟨h3, rfl⟩
  simp -dsimp -implicitDefEqProofs (disch := omega) only [go_sem, reqD_of, dec_t, dec_f, wrap_i64, wrap_u32, wrap_u64, wrap_u8, hd, e0, e4, e5, e7, h3.rowH B2 20 rfl]
  refine (do_any (o := xb.o) (vd := xb.v) (ob.in_ (by omega)) ob.kind (by omega) h3).mono ?_
  rintro e' w4 ⟨h4, rfl⟩
  have h4 := h4.sw2
  simp -dsimp -implicitDefEqProofs (disch := omega) only [go_sem, reqD_of, dec_t, dec_f, wrap_i64, wrap_u32, wrap_u64, wrap_u8, hd, e0, e4, e5, e7, h4.rowH B2 20 rfl]
  refine (do_any (o := xb.o) (vd := xb.v) (ob.in_ (by omega)) ob.kind (by omega) h4).mono ?_
  rintro e' w5 ⟨h5, rfl⟩
  simp -dsimp -implicitDefEqProofs (disch := omega) only [go_sem, reqD_of, dec_t, dec_f, wrap_i64, wrap_u32, wrap_u64, wrap_u8, hd, e0, e4, e5, e7, h5.rowH B1 20 rfl]
  refine (do_any (o := xa.o) (vd := xa.v) (oa.in_ (by omega)) oa.kind (by omega) h5).mono ?_
  rintro e' w6 ⟨h6, rfl⟩
  rw [← q3] at h6
  have h6 := h6.sw2
  obtain ⟨T, hT⟩ : ∃ T, T = (doF (doF S xa.o).1 xb.o).1 := ⟨_, rfl⟩
  have wT : Wf T := by rw [hT]; exact do_wf wa ob.ok
  rw [← hT] at h6
  simp -dsimp -implicitDefEqProofs (disch := omega) only [go_sem, reqD_of, dec_t, dec_f, wrap_i64, wrap_u32, wrap_u64, wrap_u8, hd, e0, e4, e5, e7]
  refine (list_any wT h6).mono ?_
  rintro e' w7 ⟨v1, h7, rfl⟩
  simp -dsimp -implicitDefEqProofs (disch := omega) only [go_sem, reqD_of, dec_t, dec_f, wrap_i64, wrap_u32, wrap_u64, wrap_u8, hd, e0, e4, e5, e7]
  have h7 := h7.ac (show _ = StoreP b1 0 0 T * (NodeL v1 (tellL T) * (StoreP b 0 0 T * (opW B2 xb * (opW B1 xa * A)))) by ac_rfl)
  refine (list_any wT h7).mono ?_
  rintro e' w8 ⟨v2, h8, rfl⟩
  obtain ⟨a1, c1, rfl, _⟩ := h8.right.right.rowForm v1
  obtain ⟨a2, c2, rfl, _⟩ := h8.rowForm v2
  rw [q1, q2]
  simp -dsimp -implicitDefEqProofs (disch := omega) only [go_sem, reqD_of, dec_t, dec_f, wrap_i64, wrap_u32, wrap_u64, wrap_u8, hd, e0, e4, e5, e7]
  have hlen := tell_len T
  have hmost := wT.few
  have hm2 := wT.most
  obtain ⟨l, hl⟩ : ∃ l, l = tellL T := ⟨_, rfl⟩
  rw [← hl] at h8 hlen ⊢
  have h9 : St w0 (StoreP b 0 0 T * (StoreP b1 0 0 T * (NodeL (.slice a1 l.length c1) l * (NodeL (.slice a2 l.length c2) l * (opW B2 xb * (opW B1 xa * A)))))) w8 := h8.ac (by ac_rfl)
  have r1 : Ent (StoreP b 0 0 T * (StoreP b1 0 0 T * (NodeL (.slice a1 l.length c1) l * (NodeL (.slice a2 l.length c2) l * (opW B2 xb * (opW B1 xa * A)))))) (Reads 13 (.slice a1 l.length c1) l.length (l.flatMap infL)) := (Ent.right _ _).trans ((Ent.right _ _).trans ((Ent.left _ _).trans (RowO.reads _ _ _ _ _)))
  have r2 : Ent (StoreP b 0 0 T * (StoreP b1 0 0 T * (NodeL (.slice a1 l.length c1) l * (NodeL (.slice a2 l.length c2) l * (opW B2 xb * (opW B1 xa * A)))))) (Reads 13 (.slice a2 l.length c2) l.length (l.flatMap infL)) := (Ent.right _ _).trans ((Ent.right _ _).trans ((Ent.right _ _).trans ((Ent.left _ _).trans (RowO.reads _ _ _ _ _))))
  refine loop_intro (fun e w' => e.ds = [] ∧ e.ρ 7 = .bool true ∧ e.ρ 10 = .pointer (some ⟨b, 0, none⟩) ∧ e.ρ 11 = .pointer (some ⟨b1, 0, none⟩) ∧ e.ρ 20 = .slice a1 l.length c1 ∧ e.ρ 21 = .slice a2 l.length c2 ∧ ∃ i : Nat, i ≤ l.length ∧ e.ρ 22 = .int .i64 i ∧ St w0 (StoreP b 0 0 T * (StoreP b1 0 0 T * (NodeL (.slice a1 l.length c1) l * (NodeL (.slice a2 l.length c2) l * (opW B2 xb * (opW B1 xa * A)))))) w')
    (fun e _ => match e.ρ 22 with | .int _ x => (l.length - x).toNat | _ => 0) ?_ ?_
  · exact ⟨by simp -dsimp -implicitDefEqProofs only [go_sem, hd], by simp -dsimp -implicitDefEqProofs only [go_sem, e7], by simp -dsimp -implicitDefEqProofs only [go_sem], by simp -dsimp -implicitDefEqProofs only [go_sem], by simp -dsimp -implicitDefEqProofs only [go_sem], by simp -dsimp -implicitDefEqProofs only [go_sem], 0, by omega, by simp -dsimp -implicitDefEqProofs only [go_sem], h9⟩
  clear h h1 h2 h3 h4 h5 h6 h7 h8 h9 hd e0 e4 e5 e7
  rintro e w ⟨hd, e7, e10, e11, e20, e21, i, hi, e22, h⟩
  by_cases hlt : (i : Int) < l.length
  · have hil : i < l.length := by omega
    have hD := h.drew
    obtain ⟨g1, o1, rfl, p1, _⟩ := hD.nodeAt r1 hil
    obtain ⟨g2, o2, rfl, p2, _⟩ := hD.nodeAt r2 hil
    simp -dsimp -implicitDefEqProofs (disch := omega) only [go_sem, reqD_of, dec_t, dec_f, wrap_i64, wrap_u32, wrap_u64, wrap_u8, hd, e7, e10, e11, e20, e21, e22, hlt, p1, p2]
    exact ⟨⟨i + 1, by omega, by omega, hD⟩, by omega⟩
  · simp -dsimp -implicitDefEqProofs (disch := omega) only [go_sem, reqD_of, dec_t, dec_f, wrap_i64, wrap_u32, wrap_u64, wrap_u8, hd, e7, e10, e11, e20, e21, e22, hlt]
    refine (same_any (b := b) (b2 := b1) (s := T) (t := T) (l := l) (p := 0) ((Ent.left _ _).trans (RowO.reads _ _ _ _ _)) (by omega) (fun _ _ _ => rfl) h).mono ?_
    rintro e' w9 ⟨h9, rfl⟩
    simp -dsimp -implicitDefEqProofs (disch := omega) only [go_sem, reqD_of, dec_t, dec_f, wrap_i64, wrap_u32, wrap_u64, wrap_u8, hd, e7]
    exact h9.right.right.right.right.right.right

theorem turns_any [Gives A Tabs] (hP : OpsP A (.slice a ops.length c) ops) (oa : OpA A xa) (ob : OpA A xb) (h : St w0 A w) :
    Calls Tryd.prog 9 #[.slice a ops.length c, .agg (opVL xa).toArray, .agg (opVL xb).toArray] w fun e w' => St w0 A w' ∧ e = .returned (.bool true) := by
  refine F9.calls (by simp) ?_
  unfold F9.code
  have hwa := oa.wt
  have hwb := ob.wt
  simp -dsimp -implicitDefEqProofs (disch := omega) only [go_sem, reqD_of, dec_t, dec_f, wrap_i64, wrap_u32, wrap_u64, wrap_u8]
  refine h.new fun B1 w1 h1 => ?_
  simp -dsimp -implicitDefEqProofs (disch := omega) only [go_sem, reqD_of, dec_t, dec_f, wrap_i64, wrap_u32, wrap_u64, wrap_u8]
  refine h1.new fun B2 w2 h2 => ?_
  simp -dsimp -implicitDefEqProofs (disch := omega) only [go_sem, reqD_of, dec_t, dec_f, wrap_i64, wrap_u32, wrap_u64, wrap_u8]
  refine (works_any h2).mono ?_
  rintro e w3 ⟨h3, rfl⟩
  have hE : Ent (opW B2 xb * (opW B1 xa * A)) A := (Ent.right _ _).trans (Ent.right _ _)
  have h3 : St w0 (opW B2 xb * (opW B1 xa * A)) w3 := h3
  have d3 := h3.drew
  simp -dsimp -implicitDefEqProofs (disch := omega) only [go_sem, reqD_of, dec_t, dec_f, wrap_i64, wrap_u32, wrap_u64, wrap_u8, d3.cl B1, d3.cl B2, opVL, opL]
  refine (ofOp_any (oa.up hE) d3).mono ?_
  rintro e w4 ⟨h4, rfl⟩
  simp -dsimp -implicitDefEqProofs (disch := omega) only [go_sem, reqD_of, dec_t, dec_f, wrap_i64, wrap_u32, wrap_u64, wrap_u8, h4.cl B1, h4.cl B2, opVL, opL]
  refine (ofOp_any (ob.up hE) h4).mono ?_
  rintro e w5 ⟨h5, rfl⟩
  simp -dsimp -implicitDefEqProofs (disch := omega) only [go_sem, reqD_of, dec_t, dec_f, wrap_i64, wrap_u32, wrap_u64, wrap_u8, h5.cl B1, h5.cl B2, opVL, opL]
  rw [show ((wtO xa.o : Nat) : Int) + ((wtO xb.o : Nat) : Int) = ((wtO xa.o + wtO xb.o : Nat) : Int) by omega]
  refine (ofOps_any (hP.up hE) (by omega) h5).mono ?_
  rintro e w6 ⟨h6, k, rfl, hk⟩
  by_cases hbig : (8388608 : Int) < k
  · simp -dsimp -implicitDefEqProofs (disch := omega) only [go_sem, reqD_of, dec_t, dec_f, wrap_i64, wrap_u32, wrap_u64, wrap_u8, hbig]
    exact hE.trans (Ent.rfl' _) |> h6.ent
  have hw := hk (by omega)
  have c1 : ∀ o, w6.cell? ⟨B1, o, none⟩ = (opVL xa).toArray[o]? := h6.cl B1
  have c2 : ∀ o, w6.cell? ⟨B2, o, none⟩ = (opVL xb).toArray[o]? := h6.cl B2
  have k1 : w6.cell? ⟨B1, 0, none⟩ = some (.int .u8 xa.o.kind) := c1 0
  have k2 : w6.cell? ⟨B2, 0, none⟩ = some (.int .u8 xb.o.kind) := c2 0
  have p1 : w6.cell? ⟨B1, 1, none⟩ = some (.int .u64 xa.o.path) := c1 1
  have p2 : w6.cell? ⟨B2, 1, none⟩ = some (.int .u64 xb.o.path) := c2 1
  clear c1 c2
  by_cases hcalm : (xa.o.kind : Int) = 1 ∨ (xb.o.kind : Int) = 1 ∨ (xa.o.kind : Int) = 2 ∨ (xb.o.kind : Int) = 2 ∨ (xa.o.path : Int) = xb.o.path
  · by_cases ka1 : (xa.o.kind : Int) = 1 <;> by_cases kb1 : (xb.o.kind : Int) = 1 <;> by_cases ka2 : (xa.o.kind : Int) = 2 <;> by_cases kb2 : (xb.o.kind : Int) = 2 <;> by_cases kp : (xa.o.path : Int) = xb.o.path
    all_goals first | (exfalso; omega) | (simp -dsimp -implicitDefEqProofs (disch := omega) only [go_sem, reqD_of, dec_t, dec_f, wrap_i64, wrap_u32, wrap_u64, wrap_u8, hbig, k1, k2, p1, p2, ka1, kb1, ka2, kb2, kp]; exact h6.ent hE)
  obtain ⟨ka1, kb1, ka2, kb2, kp⟩ : (¬ (xa.o.kind : Int) = 1) ∧ (¬ (xb.o.kind : Int) = 1) ∧ (¬ (xa.o.kind : Int) = 2) ∧ (¬ (xb.o.kind : Int) = 2) ∧ ¬ (xa.o.path : Int) = xb.o.path := by omega
  by_cases ka3 : (xa.o.kind : Int) = 3
  · by_cases kb3 : (xb.o.kind : Int) = 3
    · simp -dsimp -implicitDefEqProofs (disch := omega) only [go_sem, reqD_of, dec_t, dec_f, wrap_i64, wrap_u32, wrap_u64, wrap_u8, hbig, k1, k2, p1, p2, ka1, kb1, ka2, kb2, kp, ka3, kb3]
      exact h6.ent hE
    · simp -dsimp -implicitDefEqProofs (disch := omega) only [go_sem, reqD_of, dec_t, dec_f, wrap_i64, wrap_u32, wrap_u64, wrap_u8, hbig, k1, k2, p1, p2, ka1, kb1, ka2, kb2, kp, ka3, kb3]
      exact turns_t8 hP oa ob hw (by omega) (by omega) (by omega) (by omega) (by simp -dsimp -implicitDefEqProofs only [go_sem]) (by simp -dsimp -implicitDefEqProofs only [go_sem]) (by simp -dsimp -implicitDefEqProofs only [go_sem]) (by simp -dsimp -implicitDefEqProofs only [go_sem]) (by simp -dsimp -implicitDefEqProofs only [go_sem]) h6
  · simp -dsimp -implicitDefEqProofs (disch := omega) only [go_sem, reqD_of, dec_t, dec_f, wrap_i64, wrap_u32, wrap_u64, wrap_u8, hbig, k1, k2, p1, p2, ka1, kb1, ka2, kb2, kp, ka3]
    exact turns_t8 hP oa ob hw (by omega) (by omega) (by omega) (by omega) (by simp -dsimp -implicitDefEqProofs only [go_sem]) (by simp -dsimp -implicitDefEqProofs only [go_sem]) (by simp -dsimp -implicitDefEqProofs only [go_sem]) (by simp -dsimp -implicitDefEqProofs only [go_sem]) (by simp -dsimp -implicitDefEqProofs only [go_sem]) h6
end
end
end Go.Proofs.YtijnmokpihhhcaaDoor

namespace Go.Proofs.YtijnmokpihhhcaaDoor
open Go
set_option linter.unusedVariables false
set_option linter.unusedSimpArgs false

theorem calm_err {s : SD} {o : OpD} {e : Nat} (h : calmF s o = .error e) : e ≠ 0 := by
  intro he
  subst he
  unfold calmF at h
  split at h
  · cases h
  cases hf : findN s.L o.path with
  | none => rw [hf] at h; cases h
  | some n =>
    rw [hf] at h
    simp only at h
    split at h
    · split at h
      · cases h
      split at h
      · cases h
      split at h
      · split at h <;> cases h
      · cases h
    split at h
    · unfold setF at h
      split at h
      · cases h
      split at h
      · cases h
      · cases h
    split at h
    · unfold cutF at h
      split at h
      · cases h
      split at h <;> cases h
    split at h
    · unfold bytesF at h
      split at h
      · cases h
      split at h
      · cases h
      split at h <;> cases h
    · unfold opensF at h
      split at h <;> cases h
/-- What an operation does. -/
theorem do_cases {s : SD} {o : OpD} (h : Wf s) (ho : OpOk o) :
    (∃ e, e ≠ 0 ∧ doF s o = (s, 0, e)) ∨
    (o.kind = 1 ∧ ∃ n nd, findN s.L o.path = some n ∧ doF s o = ({ s with next := s.next + 1, L := s.L ++ [nd] }, s.next, 0) ∧ nd.i.path = s.next ∧ nd.i.parent = o.path) ∨
    (o.kind = 2 ∧ ∃ n, findN s.L o.path = some n ∧ n.i.path ≠ 1 ∧ doF s o = ({ s with L := dropN s.L o.path }, o.path, 0)) ∨
    ((o.kind ≠ 1 ∧ o.kind ≠ 2) ∧ ∃ n n', n ∈ s.L ∧ n.i.path = o.path ∧ Keeps n n' ∧ doF s o = ({ s with L := updN s.L o.path fun _ => n' }, o.path, 0)) := by
  by_cases h1 : o.kind = 1
  · unfold doF
    rw [if_neg (by omega)]
    cases hf : findN s.L o.path with
    | none => exact .inl ⟨80, by decide, rfl⟩
    | some n =>
      simp only
      rw [if_pos h1]
      have hp := (find_some hf).2
      unfold makeF
      split
      · exact .inl ⟨81, by decide, rfl⟩
      split
      · exact .inl ⟨1, by decide, rfl⟩
      split
      · exact .inl ⟨50, by decide, rfl⟩
      split
      · exact .inl ⟨82, by decide, rfl⟩
      split
      · exact .inl ⟨83, by decide, rfl⟩
      exact .inr (.inl ⟨h1, n, _, rfl, rfl, rfl, hp⟩)
  by_cases h2 : o.kind = 2
  · unfold doF
    rw [if_neg (by omega)]
    cases hf : findN s.L o.path with
    | none => exact .inl ⟨80, by decide, rfl⟩
    | some n =>
      simp only
      rw [if_neg h1, if_pos h2]
      have hp := (find_some hf).2
      unfold delF
      split
      · exact .inl ⟨81, by decide, rfl⟩
      split
      · exact .inl ⟨85, by decide, rfl⟩
      rename_i e1 _
      exact .inr (.inr (.inl ⟨h2, n, rfl, e1, by rw [hp]⟩))
  rw [calm_do h ⟨h1, h2⟩]
  cases hr : calmF s o with
  | error e => exact .inl ⟨e, calm_err hr, rfl⟩
  | ok n' =>
    obtain ⟨n, hn, hp, k, _⟩ := calm_ok h ho hr
    exact .inr (.inr (.inr ⟨⟨h1, h2⟩, n, n', hn, hp, k, rfl⟩))

def keepB (o : OpD) (e : Nat) (x : NodeD) : Bool := !(e == 0 && o.kind == 2 && x.i.path == o.path)
def kidsAdj (s : SD) (o : OpD) (e : Nat) (x : NodeD) : Int :=
  ((kidsF s.L x.i.path).length : Nat) + (if e = 0 ∧ o.kind = 1 ∧ x.i.path = o.path then 1 else 0) - (if e = 0 ∧ o.kind = 2 ∧ x.i.path = (toldI s o.path).parent then 1 else 0)
structure Still (s s' : SD) (o : OpD) (e : Nat) (f : NodeD → NodeD) (extra : List NodeD) : Prop where
  list : s'.L = (s.L.filter (keepB o e)).map f ++ extra
  made : extra.length = if e = 0 ∧ o.kind = 1 then 1 else 0
  path : ∀ x ∈ s.L, (f x).i.path = x.i.path
  told : ∀ x ∈ s.L, keepB o e x = true → ¬ (e = 0 ∧ x.i.path = o.path ∧ o.kind ≠ 1 ∧ o.kind ≠ 2) → tellF s'.L (f x) = { tellF s.L x with kids := kidsAdj s o e x }
  same : ∀ x ∈ s.L, x.i.path ≠ (if e = 0 then o.path else 0) → readS s x.i.path 0 65536 = readS s' x.i.path 0 65536

theorem filter_all {α : Type} {p : α → Bool} {l : List α} (h : ∀ x, p x = true) : l.filter p = l := List.filter_eq_self.2 fun x _ => h x
theorem filter_ne {l : List Nat} (hn : l.Nodup) (p : Nat) : ((l.filter fun k => !(k == p)).length : Int) = l.length - (if p ∈ l then 1 else 0) := by
  induction l with
  | nil => simp
  | cons x l ih =>
    rw [List.nodup_cons] at hn
    have ih := ih hn.2
    rw [List.filter_cons]
    by_cases hx : x = p
    · subst hx
      rw [if_neg (by simp), ih, if_neg hn.1, if_pos (by simp)]
      simp
    · rw [if_pos (by simpa using hx), List.length_cons, List.length_cons]
      have : (p ∈ x :: l) ↔ p ∈ l := by
        rw [List.mem_cons]
        exact ⟨fun hh => hh.resolve_left (fun e => hx e.symm), .inr⟩
      simp only [this]
      omega
theorem kids_nodup {s : SD} (h : Wf s) (q : Nat) : (kidsF s.L q).Nodup := (kids_rise h q).imp (fun h => Nat.ne_of_lt h)

theorem still_law {s : SD} {o : OpD} (h : Wf s) (ho : OpOk o) :
    (∃ f extra, Still s (doF s o).1 o (doF s o).2.2 f extra) ∧ ((doF s o).2.2 = 0 ↔ (doF s o).2.1 ≠ 0) := by
  rcases do_cases h ho with ⟨e, he, hdo⟩ | ⟨hk, n, nd, hf, hdo, hp, hpar⟩ | ⟨hk, n, hf, hn1, hdo⟩ | ⟨hk, n, n', hn, hp, k, hdo⟩ <;> rw [hdo]
  · refine ⟨⟨id, [], ?_, ?_, fun _ _ => rfl, fun x _ _ _ => ?_, fun _ _ _ => rfl⟩, by simp [he]⟩
    · rw [filter_all (fun x => by simp [keepB, he])]; simp
    · rw [if_neg (fun hh => he hh.1)]; rfl
    · unfold kidsAdj
      rw [if_neg (fun hh => he hh.1), if_neg (fun hh => he hh.1)]
      show tellF s.L x = _
      unfold tellF
      simp
  · obtain ⟨hn, hnp⟩ := find_some hf
    have hb := h.below n hn
    have hnext : s.next ≠ 0 := by omega
    refine ⟨⟨id, [nd], ?_, ?_, fun _ _ => rfl, fun x hx _ _ => ?_, fun x hx hne => ?_⟩, by simp [hnext]⟩
    · rw [filter_all (fun x => by simp [keepB, hk])]; simp
    · rw [if_pos ⟨rfl, hk⟩]; rfl
    · unfold kidsAdj
      have hx2 : ¬ o.kind = 2 := by omega
      rw [if_neg (show ¬ (0 = 0 ∧ o.kind = 2 ∧ _) from fun hh => hx2 hh.2.1)]
      show tellF (s.L ++ [nd]) x = _
      unfold tellF
      rw [kids_app]
      have hik : isKid x.i.path nd = decide (x.i.path = o.path) := by
        unfold isKid
        rw [hpar, hp]
        have : (s.next == o.path) = false := by simp; omega
        rw [this]
        by_cases e : x.i.path = o.path
        · simp [e]
        · simp [e]
          exact fun e2 => e e2.symm
      rw [hik]
      by_cases e : x.i.path = o.path
      · have c1 : (0 = 0 ∧ o.kind = 1 ∧ x.i.path = o.path) := ⟨rfl, hk, e⟩
        simp only [if_pos c1, decide_eq_true e, if_true, List.length_append, List.length_cons, List.length_nil, id, Inf.mk.injEq, true_and]
        omega
      · have c1 : ¬ (0 = 0 ∧ o.kind = 1 ∧ x.i.path = o.path) := fun hh => e hh.2.2
        simp only [if_neg c1, decide_eq_false e, Bool.false_eq_true, if_false, id, Inf.mk.injEq, true_and]
        omega
    · unfold readS findN
      have hb2 := h.below x hx
      rw [List.find?_append]
      cases hfx : s.L.find? fun n => n.i.path == x.i.path with
      | some y => rfl
      | none => exact absurd rfl (find_none hfx x hx)
  · obtain ⟨hn, hnp⟩ := find_some hf
    have hb := h.below n hn
    have ho0 : o.path ≠ 0 := by omega
    refine ⟨⟨id, [], ?_, ?_, fun _ _ => rfl, fun x hx hkeep _ => ?_, fun x hx hne => ?_⟩, by simp [ho0]⟩
    · rw [List.map_id, List.append_nil]
      show dropN s.L o.path = _
      unfold dropN
      refine List.filter_congr fun x _ => ?_
      simp [keepB, hk]
    · rw [if_neg (fun hh => by omega)]; rfl
    · have hxp : x.i.path ≠ o.path := by simpa [keepB, hk] using hkeep
      unfold kidsAdj
      rw [if_neg (show ¬ (0 = 0 ∧ o.kind = 1 ∧ _) from fun hh => by omega)]
      show tellF (dropN s.L o.path) x = _
      unfold tellF
      rw [kids_drop]
      have hlen := filter_ne (kids_nodup h x.i.path) o.path
      have htp : (toldI s o.path).parent = n.i.parent := by rw [toldI_some hf]; rfl
      have hmem : o.path ∈ kidsF s.L x.i.path ↔ x.i.path = n.i.parent := by
        constructor
        · intro hm
          obtain ⟨y, hy, hyp⟩ := List.mem_map.1 hm
          obtain ⟨hy1, hy2⟩ := List.mem_filter.1 hy
          have : y = n := rise_inj h.rise hy1 hn (by rw [hyp, hnp])
          subst this
          exact ((isKid_iff h hy1).1 hy2).1.symm
        · intro e
          rw [← hnp]
          exact List.mem_map_of_mem (f := (·.i.path)) (List.mem_filter.2 ⟨hn, (isKid_iff h hn).2 ⟨e.symm, hn1⟩⟩)
      rw [htp]
      simp only [Inf.mk.injEq, true_and, id]
      by_cases e : x.i.path = n.i.parent
      · rw [if_pos (hmem.2 e)] at hlen
        have c1 : (o.kind = 2 ∧ x.i.path = n.i.parent) := ⟨hk, e⟩
        rw [if_pos c1]
        omega
      · rw [if_neg (fun hm => e (hmem.1 hm))] at hlen
        have c1 : ¬ (o.kind = 2 ∧ x.i.path = n.i.parent) := fun hh => e hh.2
        rw [if_neg c1]
        omega
    · rw [if_pos rfl] at hne
      have hfd : findN (dropN s.L o.path) x.i.path = findN s.L x.i.path := by
        unfold findN dropN
        rw [find_filter]
        intro y _ hy
        simp only [beq_iff_eq] at hy
        simp only [Bool.not_eq_true', beq_eq_false_iff_ne]
        rw [hy]; exact hne
      unfold readS
      simp only [hfd]
  · have hb := h.below n hn
    have ho0 : o.path ≠ 0 := by omega
    refine ⟨⟨fun x => if x.i.path = o.path then n' else x, [], ?_, ?_, fun x hx => ?_, fun x hx _ hfree => ?_, fun x hx hne => ?_⟩, by simp [ho0]⟩
    · rw [filter_all (fun x => by simp [keepB, hk.2])]; rw [List.append_nil]; rfl
    · rw [if_neg (fun hh => hk.1 hh.2)]; rfl
    · split
      · rename_i e; rw [k.path, hp, e]
      · rfl
    · have hxp : x.i.path ≠ o.path := fun e => hfree ⟨rfl, e, hk⟩
      rw [if_neg hxp]
      unfold kidsAdj
      rw [if_neg (fun hh => hk.1 hh.2.1), if_neg (fun hh => hk.2 hh.2.1)]
      show tellF (updN s.L o.path fun _ => n') x = _
      unfold tellF
      rw [kids_upd h.rise hn hp k]
      simp
    · rw [if_pos rfl] at hne
      have hfd : findN (updN s.L o.path fun _ => n') x.i.path = findN s.L x.i.path := by rw [find_upd (by rw [k.path, hp]), if_neg hne]
      unfold readS
      simp only [hfd]
end Go.Proofs.YtijnmokpihhhcaaDoor
