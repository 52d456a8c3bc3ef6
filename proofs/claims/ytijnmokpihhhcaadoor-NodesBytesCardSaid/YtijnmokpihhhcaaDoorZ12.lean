/- A node is no more. · A node is called otherwise. · A node is called otherwise: the walk. · Operations: turn, Do. · A store of the root alone. · The law's first helpers: store, mak. · What the chapter's first and third examples fix. · What the chapter's first and third examples fix: the walk. · NodesNames: the walk. · Paths rise: the plain law. · Two files of bytes: the plain law. · Paths rise: the walk. · Arguments that are rows of structs with slices in them, as rows that are read. · Arguments that are rows of numbers or of texts, as rows that are read. · Operations handed in, and their weight. · Two files of bytes: the inner loops. · NodesBytes: what a step does, from its parts. · NodesBytes: the walk. · Steps handed in. -/
import Derived.Test.YtijnmokpihhhcaaDoorZ1
import Derived.Test.YtijnmokpihhhcaaDoorZ2
import Derived.Test.YtijnmokpihhhcaaDoorZ3
import Derived.Test.YtijnmokpihhhcaaDoorZ4
import Derived.Test.YtijnmokpihhhcaaDoorZ5
import Derived.Test.YtijnmokpihhhcaaDoorZ6
import Derived.Test.YtijnmokpihhhcaaDoorZ7
import Derived.Test.YtijnmokpihhhcaaDoorZ8
import Derived.Test.YtijnmokpihhhcaaDoorZ9
import Derived.Test.YtijnmokpihhhcaaDoorZ10
import Derived.Test.YtijnmokpihhhcaaDoorZ11
import Derived.SizedLaws
namespace Go.Proofs.YtijnmokpihhhcaaDoor
open Go
set_option linter.unusedVariables false
set_option linter.unusedSimpArgs false
set_option maxRecDepth 100000

theorem drop_paths (L : List NodeD) (p : Nat) : (dropN L p).map (·.i.path) = (L.map (·.i.path)).filter fun k => !(k == p) := by
  unfold dropN
  rw [List.filter_map]; rfl

section
variable {w0 w : World} {A : HP} {b B K : Nat} {s : SD} {y : SX} {X1 X2 : List NN} {x : NN} {t : Inf} {st rc : Int} {e : FA} {R : Ending → World → Prop}

section
attribute [local go_sem] F66.t6_eq
theorem drop_any (ok : StoreOk s y) (hs : y.X = X1 ++ x :: X2) (hw : Wf (delF s x.d).1) (h : St w0 (StoreQ b st rc s y * A) w) :
    Calls Tryd.prog 66 #[.pointer (some ⟨b, 0, none⟩), .pointer (some ⟨x.n, 0, none⟩)] w (TurnR w0 A b st rc (delF s x.d)) := by
  have hx : x ∈ y.X := by rw [hs]; simp
  have hdm : x.d ∈ s.L := ok.perm.mem_iff.1 (List.mem_map.2 ⟨x, hx, rfl⟩)
  have hks := ok.kids x hx
  have few := ok.wf.few
  have most := ok.wf.most
  have h0 := h.ac (StoreQ.eq hs)
  obtain ⟨a, c, hvk, hl0, hnc, hcm⟩ := h0.rowForm x.vk
  refine F66.calls (by simp) ?_
  unfold F66.code
  by_cases c1 : (x.d.i.path : Int) = 1
  · have hr : delF s x.d = (s, 0, 81) := by unfold delF; rw [if_pos (by omega)]
    rw [hr]
    simp -dsimp -implicitDefEqProofs (disch := omega) only [go_sem, reqD_of, dec_t, dec_f, wrap_i64, wrap_u32, wrap_u64, wrap_u8, h0.cl x.n, c1]
    exact ⟨y, ok, h0.ac (StoreQ.eq hs).symm, rfl⟩
  by_cases c2 : (0 : Int) < (x.ks.length : Int)
  · have hr : delF s x.d = (s, 0, 85) := by unfold delF; rw [if_neg (by omega), if_pos (by rw [← hks]; omega)]
    rw [hr]
    simp -dsimp -implicitDefEqProofs (disch := omega) only [go_sem, reqD_of, dec_t, dec_f, wrap_i64, wrap_u32, wrap_u64, wrap_u8, h0.cl x.n, c1, hvk, c2]
    exact ⟨y, ok, h0.ac (StoreQ.eq hs).symm, rfl⟩
  have h1 : x.d.i.path ≠ 1 := by omega
  have hr : delF s x.d = ({ s with L := dropN s.L x.d.i.path }, x.d.i.path, 0) := by unfold delF; rw [if_neg h1, if_neg (by rw [← hks]; omega)]
  rw [hr] at hw ⊢
  obtain ⟨hup, d, hfd, _⟩ := ok.wf.up _ hdm h1
  obtain ⟨Y1, z, Y2, hy, rfl, hzy, hlz⟩ := ok.some hfd
  have hzp := (find_some hfd).2
  have hzx : z ∈ X1 ++ X2 := by
    rw [hs] at hzy
    rcases List.mem_append.1 hzy with h | h
    · simp [h]
    · rcases List.mem_cons.1 h with h | h
      · subst h; omega
      · simp [h]
  obtain ⟨Z1, Z2, hz⟩ := List.append_of_mem hzx
  have h2 : St w0 (NodeB x.n 0 x.d.i x.vk x.vb * (RowU x.vk x.ks * (BlksP x.vb x.P * (NodeB z.n 0 z.d.i z.vk z.vb * (RowU z.vk z.ks * (BlksP z.vb z.P * (StoreR b st rc s y (y.X.map kv) (Z1 ++ Z2) * A))))))) w := by
    have e1 : starL nodeP (X1 ++ X2) = NodeB z.n 0 z.d.i z.vk z.vb * (RowU z.vk z.ks * BlksP z.vb z.P) * starL nodeP (Z1 ++ Z2) := by
      rw [hz, starL_split]; rfl
    refine h0.ac ?_
    simp only [StoreR]
    rw [e1]
    ac_rfl
  simp -dsimp -implicitDefEqProofs (disch := omega) only [go_sem, reqD_of, dec_t, dec_f, wrap_i64, wrap_u32, wrap_u64, wrap_u8, h2.cl x.n, c1, hvk, c2, h2.drew.cl x.n, h2.drew.cl b]
  refine h2.drew.lkH (b := y.N) (x := (x.d.i.parent : Int)) Tryd.underlying93 lawU zero_ptr ?_
  rw [hlz]
  simp -dsimp -implicitDefEqProofs (disch := omega) only [go_sem, reqD_of, dec_t, dec_f, wrap_i64, wrap_u32, wrap_u64, wrap_u8, lkV, h2.drew.cl x.n, h2.drew.cl b, h2.drew.cl z.n]
  have hzks := ok.kids z hzy
  have hzl := kids_len s.L z.d.i.path
  have h3 : St w0 (RowU z.vk z.ks * (NodeB x.n 0 x.d.i x.vk x.vb * (NodeB z.n 0 z.d.i z.vk z.vb * (BlksP z.vb z.P * (StoreR b st rc s y (y.X.map kv) (Z1 ++ Z2) * A))))) w.drew := by
    have := h2.drew
    refine St.right (A := RowU x.vk x.ks * BlksP x.vb x.P) (this.ac ?_)
    ac_rfl
  refine (without_any (l := z.ks) h3 (by rw [hzks]; exact kids_rise ok.wf _) (by rw [hzks]; omega)).mono ?_
  rintro e w4 ⟨v4, h4, rfl⟩
  obtain ⟨a4, c4, rfl, _⟩ := h4.rowForm v4
  simp -dsimp -implicitDefEqProofs (disch := omega) only [go_sem, reqD_of, dec_t, dec_f, wrap_i64, wrap_u32, wrap_u64, wrap_u8, h4.cl z.n]
  refine h4.sto (b := z.n) (by simp) rfl fun w5 h5 => ?_
  simp only [List.setIfInBounds_toArray, List.set_cons_succ, List.set_cons_zero] at h5
  simp -dsimp -implicitDefEqProofs (disch := omega) only [go_sem, reqD_of, dec_t, dec_f, wrap_i64, wrap_u32, wrap_u64, wrap_u8, h5.cl b]
  obtain ⟨zk, hzk⟩ : ∃ zk, zk = z.ks.filter fun k => !(k == x.d.i.path) := ⟨_, rfl⟩
  rw [← hzk] at h5
  have h6 : St w0 (RowU y.ov (s.L.map (·.i.path)) * (RowU (.slice a4 zk.length c4) zk * (NodeB x.n 0 x.d.i x.vk x.vb * (NodeB z.n 0 z.d.i (.slice a4 zk.length c4) z.vb * (BlksP z.vb z.P * (StoreB b st rc s y * (MapP encU y.N (y.X.map kv) * (MapP encK y.C y.cl * (starL nodeP (Z1 ++ Z2) * A))))))))) w5 := by
    refine St.ac (A := RowU (.slice a4 zk.length c4) zk * (NodeB x.n 0 x.d.i x.vk x.vb * (NodeB z.n 0 z.d.i (.slice a4 zk.length c4) z.vb * (BlksP z.vb z.P * (StoreR b st rc s y (y.X.map kv) (Z1 ++ Z2) * A))))) h5 ?_
    simp only [StoreR]
    ac_rfl
  refine (without_any (l := s.L.map (·.i.path)) h6 (rise_paths.1 ok.wf.rise) (by simp; omega)).mono ?_
  rintro e w7 ⟨v7, h7, rfl⟩
  obtain ⟨a7, c7, rfl, _⟩ := h7.rowForm v7
  simp -dsimp -implicitDefEqProofs (disch := omega) only [go_sem, reqD_of, dec_t, dec_f, wrap_i64, wrap_u32, wrap_u64, wrap_u8, h7.cl b]
  refine h7.sto (b := b) (by simp) rfl fun w8 h8 => ?_
  simp only [List.setIfInBounds_toArray, List.set_cons_succ, List.set_cons_zero] at h8
  simp -dsimp -implicitDefEqProofs (disch := omega) only [go_sem, reqD_of, dec_t, dec_f, wrap_i64, wrap_u32, wrap_u64, wrap_u8, h8.drew.cl b, h8.drew.cl x.n]
  refine onV_of (v := encK (x.d.i.parent, x.d.i.name)) (by kernel_rfl) ?_
  simp -dsimp -implicitDefEqProofs (disch := omega) only [go_sem, reqD_of, dec_t, dec_f, wrap_i64, wrap_u32, wrap_u64, wrap_u8, h8.drew.cl b, h8.drew.cl x.n]
  have hcl := h8.mapNodup y.C
  refine h8.drew.delH (b := y.C) (x := ((x.d.i.parent, x.d.i.name) : KD)) Tryd.underlying94 lawK fun w9 h9 => ?_
  simp -dsimp -implicitDefEqProofs (disch := omega) only [go_sem, reqD_of, dec_t, dec_f, wrap_i64, wrap_u32, wrap_u64, wrap_u8, h9.cl b, h9.cl x.n]
  refine h9.delH (b := y.N) (x := (x.d.i.path : Int)) Tryd.underlying93 lawU fun w10 h10 => ?_
  simp -dsimp -implicitDefEqProofs (disch := omega) only [go_sem, reqD_of, dec_t, dec_f, wrap_i64, wrap_u32, wrap_u64, wrap_u8, h10.cl b]
  have hnk : (x.d.i.path : Int) ∉ (X1.map kv).map (·.1) := by
    have := ok.keys
    rw [hs, List.map_append, List.map_cons, List.map_append, List.map_cons, List.nodup_append] at this
    intro hm
    exact this.2.2 _ hm _ List.mem_cons_self rfl
  obtain ⟨z', hz'⟩ : ∃ z' : NN, z' = { z with vk := .slice a4 zk.length c4, ks := z.ks.filter fun k => !(k == x.d.i.path) } := ⟨_, rfl⟩
  have e1 : del (x.d.i.path : Int) (y.X.map kv) = (Z1 ++ z' :: Z2).map kv := by
    have e2 : y.X.map kv = X1.map kv ++ ((x.d.i.path : Int), .pointer (some ⟨x.n, 0, none⟩)) :: X2.map kv := by rw [hs, List.map_append, List.map_cons]; rfl
    rw [e2, del_mid hnk, ← List.map_append, hz, hz']
    simp [kv]
  obtain ⟨of, hof⟩ : ∃ of, of = (s.L.map (·.i.path)).filter fun k => !(k == x.d.i.path) := ⟨_, rfl⟩
  rw [← hof] at h10
  refine ⟨_, storeOk_drop (vk' := .slice a4 zk.length c4) (ov' := .slice a7 of.length c7) ok hs hz hzp h1 hcl hw, ?_, rfl⟩
  rw [← hz']
  obtain ⟨Mc, hMc⟩ : ∃ Mc, Mc = MapP encK y.C (del ((x.d.i.parent, x.d.i.name) : KD) y.cl) := ⟨_, rfl⟩
  obtain ⟨Mn, hMn⟩ : ∃ Mn, Mn = MapP encU y.N (del (x.d.i.path : Int) (y.X.map kv)) := ⟨_, rfl⟩
  have h11 : St w0 (RowU (.slice a7 of.length c7) of * (RowU (.slice a4 zk.length c4) zk * (NodeB x.n 0 x.d.i x.vk x.vb * (NodeB z.n 0 z.d.i (.slice a4 zk.length c4) z.vb * (BlksP z.vb z.P * (Blk b (.cells (storeC st rc s.most s.next (.map (some y.N)) (.slice a7 of.length c7) (.map (some y.C))) 101 (0, 0)) * (Mn * (Mc * (starL nodeP (Z1 ++ Z2) * A))))))))) w10 := by
    rw [hMc, hMn]; exact h10
  have e3 : nodeP z' = NodeB z.n 0 z.d.i (.slice a4 zk.length c4) z.vb * (RowU (.slice a4 zk.length c4) zk * BlksP z.vb z.P) := by rw [hz', hzk]; rfl
  show St w0 (Blk b (.cells (storeC st rc s.most s.next (.map (some y.N)) (.slice a7 of.length c7) (.map (some y.C))) 101 (0, 0)) * (MapP encU y.N ((Z1 ++ z' :: Z2).map kv) * (MapP encK y.C (del ((x.d.i.parent, x.d.i.name) : KD) y.cl) * (RowU (.slice a7 of.length c7) ((dropN s.L x.d.i.path).map (·.i.path)) * starL nodeP (Z1 ++ z' :: Z2)))) * A) w10
  rw [← hMc, ← e1, ← hMn, drop_paths, ← hof, starL_split, e3]
  refine St.right (A := NodeB x.n 0 x.d.i x.vk x.vb) (h11.ac ?_)
  ac_rfl
end
end
end Go.Proofs.YtijnmokpihhhcaaDoor

namespace Go.Proofs.YtijnmokpihhhcaaDoor
open Go
set_option linter.unusedVariables false
set_option linter.unusedSimpArgs false
set_option maxRecDepth 100000

/-- A node by another name. -/
def calledN (n : NodeD) (nm : List UInt8) : NodeD := ⟨{ n.i with name := nm }, n.b⟩

theorem storeOk_call {s : SD} {y : SX} (ok : StoreOk s y) {X1 X2 : List NN} {x : NN} {nm : List UInt8} (hs : y.X = X1 ++ x :: X2) (h1 : x.d.i.path ≠ 1)
    (hcl : (y.cl.map (·.1)).Nodup) (hw : Wf { s with L := updN s.L x.d.i.path fun _ => calledN x.d nm }) :
    StoreOk { s with L := updN s.L x.d.i.path fun _ => calledN x.d nm } { y with X := X1 ++ { x with d := calledN x.d nm } :: X2, cl := upd (x.d.i.parent, nm) (u64V x.d.i.path) (del (x.d.i.parent, x.d.i.name) y.cl) } := by
  have k : Keeps x.d (calledN x.d nm) := ⟨rfl, rfl, rfl⟩
  have hx : x ∈ y.X := by rw [hs]; simp
  have hd : x.d ∈ s.L := ok.perm.mem_iff.1 (List.mem_map.2 ⟨x, hx, rfl⟩)
  obtain ⟨p1, p2, p3⟩ := upd_parts (x' := { x with d := calledN x.d nm }) ok hs rfl k rfl (ok.bytes x hx)
  refine ⟨hw, p1, p2, p3, fun dir m => ?_⟩
  show lk (dir, m) (upd (x.d.i.parent, nm) (u64V x.d.i.path) (del (x.d.i.parent, x.d.i.name) y.cl)) = (childF (updN s.L x.d.i.path fun _ => calledN x.d nm) dir m).map u64V
  have hd' : calledN x.d nm ∈ updN s.L x.d.i.path fun _ => calledN x.d nm := List.mem_map.2 ⟨x.d, hd, by rw [if_pos rfl]⟩
  rw [lk_upd, lk_del hcl]
  by_cases e1 : (dir, m) = (x.d.i.parent, nm)
  · rw [if_pos e1]
    simp only [Prod.mk.injEq] at e1
    obtain ⟨rfl, rfl⟩ := e1
    have := child_of hw hd' h1
    change childF (updN s.L x.d.i.path fun _ => calledN x.d m) x.d.i.parent m = some x.d.i.path at this
    rw [this]; rfl
  rw [if_neg e1]
  by_cases e2 : (dir, m) = (x.d.i.parent, x.d.i.name)
  · rw [if_pos e2]
    simp only [Prod.mk.injEq] at e2
    obtain ⟨rfl, rfl⟩ := e2
    have : childF (updN s.L x.d.i.path fun _ => calledN x.d nm) x.d.i.parent x.d.i.name = none := by
      cases hc : childF (updN s.L x.d.i.path fun _ => calledN x.d nm) x.d.i.parent x.d.i.name with
      | none => rfl
      | some q =>
        obtain ⟨u, hu, rfl, hk, hn⟩ := child_some hc
        rcases upd_mem hu with ⟨rfl, _⟩ | ⟨hu1, hu2⟩
        · exact absurd (by show _ = (_, nm); rw [← hn]; rfl) e1
        · obtain ⟨k1, k2⟩ := (isKid_iff ok.wf hu1).1 hk
          exact absurd (ok.wf.one u hu1 x.d hd k2 h1 k1 hn) hu2
    rw [this]; rfl
  rw [if_neg e2, ok.child]
  congr 1
  unfold childF updN
  refine (find_map_congr fun u hu => ?_).symm
  rcases upd_at (d' := calledN x.d nm) ok.wf.rise hd rfl hu with ⟨rfl, e⟩ | e
  · rw [e]
    refine ⟨?_, rfl⟩
    have a1 : (isKid dir (calledN x.d nm) && (calledN x.d nm).i.name == m) = false := by
      cases hh : isKid dir (calledN x.d nm) && (calledN x.d nm).i.name == m
      · rfl
      · simp only [Bool.and_eq_true, beq_iff_eq, isKid] at hh
        exact absurd (by rw [← hh.1.1, ← hh.2]; rfl) e1
    have a2 : (isKid dir x.d && x.d.i.name == m) = false := by
      cases hh : isKid dir x.d && x.d.i.name == m
      · rfl
      · simp only [Bool.and_eq_true, beq_iff_eq, isKid] at hh
        exact absurd (by rw [← hh.1.1, ← hh.2]) e2
    rw [a1, a2]
  · rw [e]; exact ⟨rfl, rfl⟩
end Go.Proofs.YtijnmokpihhhcaaDoor

namespace Go.Proofs.YtijnmokpihhhcaaDoor
open Go
set_option linter.unusedVariables false
set_option linter.unusedSimpArgs false
set_option maxRecDepth 100000

section
variable {w0 w : World} {A : HP} {b B K : Nat} {s : SD} {y : SX} {X1 X2 : List NN} {x : NN} {t : Inf} {st rc : Int} {nm : List UInt8} {e : FA} {R : Ending → World → Prop}

section
attribute [local go_sem] F67.t10_eq
theorem call_t10 (ok : StoreOk s y) (hs : y.X = X1 ++ x :: X2) (h1 : x.d.i.path ≠ 1) (hw : Wf { s with L := updN s.L x.d.i.path fun _ => calledN x.d nm })
    (h : St w0 (Blk K (.cells [.int .u64 (x.d.i.parent : Int), .string (strOf nm)].toArray 121 (0, 0)) * (NodeB x.n 0 x.d.i x.vk x.vb * (RowU x.vk x.ks * (BlksP x.vb x.P * (StoreR b st rc s y (y.X.map kv) (X1 ++ X2) * A))))) w)
    (hd : e.ds = []) (e0 : e.ρ 0 = .pointer (some ⟨b, 0, none⟩)) (e1 : e.ρ 1 = .pointer (some ⟨x.n, 0, none⟩)) (e2 : e.ρ 2 = .string (strOf nm)) (e8 : e.ρ 8 = .int .u64 x.d.i.path) (e9 : e.ρ 9 = .pointer (some ⟨K, 0, none⟩)) :
    cwE Tryd.prog F67.t10 (fnP Tryd.prog #[.tmp 6, .tmp 7] (TurnR w0 A b st rc ({ s with L := updN s.L x.d.i.path fun _ => calledN x.d nm }, x.d.i.path, 0))) e w := by
  rw [F67.t10_eq]
  simp -dsimp -implicitDefEqProofs (disch := omega) only [go_sem, reqD_of, dec_t, dec_f, wrap_i64, wrap_u32, wrap_u64, wrap_u8, hd, e0, e1, e2, e8, e9, h.drew.cl b, h.drew.cl x.n]
  refine onV_of (v := encK (x.d.i.parent, x.d.i.name)) (by kernel_rfl) ?_
  simp -dsimp -implicitDefEqProofs (disch := omega) only [go_sem, reqD_of, dec_t, dec_f, wrap_i64, wrap_u32, wrap_u64, wrap_u8, hd, e0, e1, e2, e8, e9, h.drew.cl b, h.drew.cl x.n]
  have hcl := h.mapNodup y.C
  refine h.drew.delH (b := y.C) (x := ((x.d.i.parent, x.d.i.name) : KD)) Tryd.underlying94 lawK fun w2 h2 => ?_
  have hK := h2.drew.rowH K 2 rfl
  have hK2 := h2.rowH K 2 rfl
  simp -dsimp -implicitDefEqProofs (disch := omega) only [go_sem, reqD_of, dec_t, dec_f, wrap_i64, wrap_u32, wrap_u64, wrap_u8, hd, e0, e1, e2, e8, e9, h2.cl b, h2.cl x.n, hK2, h2.drew.cl b, hK]
  refine h2.drew.updH (b := y.C) (x := ((x.d.i.parent, nm) : KD)) Tryd.underlying94 lawK fun w3 h3 => ?_
  have hK3 := h3.rowH K 2 rfl
  simp -dsimp -implicitDefEqProofs (disch := omega) only [go_sem, reqD_of, dec_t, dec_f, wrap_i64, wrap_u32, wrap_u64, wrap_u8, hd, e0, e1, e2, e8, e9, h3.cl b, h3.cl x.n, hK3]
  refine h3.sto (b := x.n) (by simp) rfl fun w4 h4 => ?_
  simp only [List.setIfInBounds_toArray, List.set_cons_succ, List.set_cons_zero] at h4
  simp -dsimp -implicitDefEqProofs (disch := omega) only [go_sem, reqD_of, dec_t, dec_f, wrap_i64, wrap_u32, wrap_u64, wrap_u8, hd, e0, e1, e2, e8, e9]
  refine ⟨_, storeOk_call ok hs h1 hcl hw, ?_, rfl⟩
  obtain ⟨x', hx'⟩ : ∃ x' : NN, x' = { x with d := calledN x.d nm } := ⟨_, rfl⟩
  rw [← hx']
  obtain ⟨Mc, hMc⟩ : ∃ Mc, Mc = MapP encK y.C (upd ((x.d.i.parent, nm) : KD) (u64V x.d.i.path) (del ((x.d.i.parent, x.d.i.name) : KD) y.cl)) := ⟨_, rfl⟩
  have h5 : St w0 (Blk K (.cells [.int .u64 (x.d.i.parent : Int), .string (strOf nm)].toArray 121 (0, 0)) * (NodeB x.n 0 (calledN x.d nm).i x.vk x.vb * (RowU x.vk x.ks * (BlksP x.vb x.P * ((StoreB b st rc s y * (MapP encU y.N (y.X.map kv) * (Mc * (RowU y.ov (s.L.map (·.i.path)) * starL nodeP (X1 ++ X2))))) * A))))) w4 := by
    rw [hMc]; exact h4
  have q1 : nodeP x' = NodeB x.n 0 (calledN x.d nm).i x.vk x.vb * (RowU x.vk x.ks * BlksP x.vb x.P) := by rw [hx']; rfl
  have q2 : (X1 ++ x' :: X2).map kv = y.X.map kv := by rw [hs, hx']; simp [kv, calledN]
  have q3 : (updN s.L x.d.i.path fun _ => calledN x.d nm).map (·.i.path) = s.L.map (·.i.path) := upd_paths rfl
  show St w0 (StoreB b st rc s y * (MapP encU y.N ((X1 ++ x' :: X2).map kv) * (MapP encK y.C (upd ((x.d.i.parent, nm) : KD) (u64V x.d.i.path) (del ((x.d.i.parent, x.d.i.name) : KD) y.cl)) * (RowU y.ov ((updN s.L x.d.i.path fun _ => calledN x.d nm).map (·.i.path)) * starL nodeP (X1 ++ x' :: X2)))) * A) w4
  rw [← hMc, q2, q3, starL_split, q1]
  exact (h5.right).ac (by ac_rfl)

end

theorem call_any [Gives A Tabs] (ok : StoreOk s y) (hs : y.X = X1 ++ x :: X2) (hnm : nm.length ≤ 4294967296) (hw : Wf (callF s x.d nm).1) (h : St w0 (StoreQ b st rc s y * A) w) :
    Calls Tryd.prog 67 #[.pointer (some ⟨b, 0, none⟩), .pointer (some ⟨x.n, 0, none⟩), .string (strOf nm)] w (TurnR w0 A b st rc (callF s x.d nm)) := by
  have hx : x ∈ y.X := by rw [hs]; simp
  have hdm : x.d ∈ s.L := ok.perm.mem_iff.1 (List.mem_map.2 ⟨x, hx, rfl⟩)
  have h0 := h.ac (StoreQ.eq hs)
  refine F67.calls (by simp) ?_
  unfold F67.code
  simp -dsimp -implicitDefEqProofs (disch := omega) only [go_sem, reqD_of, dec_t, dec_f, wrap_i64, wrap_u32, wrap_u64, wrap_u8, h0.cl x.n]
  refine onV_of (v := encK (x.d.i.parent, nm)) (by kernel_rfl) ?_
  simp -dsimp -implicitDefEqProofs (disch := omega) only [go_sem, reqD_of, dec_t, dec_f, wrap_i64, wrap_u32, wrap_u64, wrap_u8]
  refine h0.new fun K w1 h1 => ?_
  simp -dsimp -implicitDefEqProofs (disch := omega) only [go_sem, reqD_of, dec_t, dec_f, wrap_i64, wrap_u32, wrap_u64, wrap_u8]
  simp only [encK]
  refine h1.stoAll (b := K) (cs := [.int .u64 (x.d.i.parent : Int), .string (strOf nm)]) rfl rfl (by intro v hv; simp at hv; rcases hv with rfl | rfl <;> rfl) fun w2 h2 => ?_
  have hK := h2.drew.rowH K 2 rfl
  simp -dsimp -implicitDefEqProofs (disch := omega) only [go_sem, reqD_of, dec_t, dec_f, wrap_i64, wrap_u32, wrap_u64, wrap_u8, h2.drew.cl b, hK]
  refine h2.drew.lkH (b := y.C) (x := ((x.d.i.parent, nm) : KD)) Tryd.underlying94 lawK (z := .int .u64 0) (by kernel_rfl) ?_
  rw [ok.child]
  have hl : lkV (.int .u64 0) true ((childF s.L x.d.i.parent nm).map u64V) = .tuple #[u64V ((childF s.L x.d.i.parent nm).getD 0), .bool (childF s.L x.d.i.parent nm).isSome] := lkV_get (f := u64V) (d := 0) _
  rw [hl]
  have h3 : St w0 (Blk K (.cells [.int .u64 (x.d.i.parent : Int), .string (strOf nm)].toArray 121 (0, 0)) * (NodeB x.n 0 x.d.i x.vk x.vb * (RowU x.vk x.ks * (BlksP x.vb x.P * (StoreR b st rc s y (y.X.map kv) (X1 ++ X2) * A))))) w2.drew := h2.drew
  have err : ∀ (w' : World) (k : Nat), St w0 (Blk K (.cells [.int .u64 (x.d.i.parent : Int), .string (strOf nm)].toArray 121 (0, 0)) * (NodeB x.n 0 x.d.i x.vk x.vb * (RowU x.vk x.ks * (BlksP x.vb x.P * (StoreR b st rc s y (y.X.map kv) (X1 ++ X2) * A))))) w' →
      callF s x.d nm = (s, 0, k) → TurnR w0 A b st rc (callF s x.d nm) (.returned (.tuple #[.int .u64 0, .int .i64 k])) w' := fun w' k h hm => by
    rw [hm]
    exact ⟨y, ok, h.right.ac (StoreQ.eq hs).symm, rfl⟩
  by_cases c1 : (x.d.i.path : Int) = 1
  · simp -dsimp -implicitDefEqProofs (disch := omega) only [go_sem, reqD_of, dec_t, dec_f, wrap_i64, wrap_u32, wrap_u64, wrap_u8, c1]
    exact err _ 81 h3 (by unfold callF; rw [if_pos (by omega)])
  have h1' : x.d.i.path ≠ 1 := by omega
  simp -dsimp -implicitDefEqProofs (disch := omega) only [go_sem, reqD_of, dec_t, dec_f, wrap_i64, wrap_u32, wrap_u64, wrap_u8, c1]
  refine (check_any h3 (Nat.le_trans hnm (by omega))).mono ?_
  rintro e w4 ⟨h4, rfl⟩
  cases g5 : okName nm
  case false =>
    simp only [Bool.false_eq_true, if_false]
    simp -dsimp -implicitDefEqProofs (disch := omega) only [go_sem, reqD_of, dec_t, dec_f, wrap_i64, wrap_u32, wrap_u64, wrap_u8]
    exact err _ 50 h4 (by unfold callF; rw [if_neg h1', if_pos (by simp [g5])])
  simp only [if_true]
  have good : ∀ (hq : childF s.L x.d.i.parent nm = none ∨ childF s.L x.d.i.parent nm = some x.d.i.path), callF s x.d nm = ({ s with L := updN s.L x.d.i.path fun _ => calledN x.d nm }, x.d.i.path, 0) := fun hq => by
    have e : (updN s.L x.d.i.path fun n => ⟨{ n.i with name := nm }, n.b⟩) = updN s.L x.d.i.path fun _ => calledN x.d nm := upd_fun ok.wf.rise hdm (fun n => ⟨{ n.i with name := nm }, n.b⟩)
    unfold callF
    rw [if_neg h1', if_neg (by simp [g5])]
    rcases hq with hq | hq
    · rw [hq]; simp only; rw [e]
    · rw [hq]; simp only [if_true]; rw [e]
  cases hc : childF s.L x.d.i.parent nm with
  | none =>
    rw [good (.inl hc)] at hw ⊢
    simp only [Option.isSome_none, Option.getD_none]
    simp -dsimp -implicitDefEqProofs (disch := omega) only [go_sem, reqD_of, dec_t, dec_f, wrap_i64, wrap_u32, wrap_u64, wrap_u8, c1]
    exact call_t10 ok hs h1' hw h4 (by simp -dsimp -implicitDefEqProofs only [go_sem]) (by simp -dsimp -implicitDefEqProofs only [go_sem]) (by simp -dsimp -implicitDefEqProofs only [go_sem]) (by simp -dsimp -implicitDefEqProofs only [go_sem]) (by simp -dsimp -implicitDefEqProofs only [go_sem]) (by simp -dsimp -implicitDefEqProofs only [go_sem])
  | some q =>
    simp only [Option.isSome_some, Option.getD_some]
    by_cases c2 : (q : Int) = (x.d.i.path : Int)
    · have : q = x.d.i.path := by omega
      subst this
      rw [good (.inr hc)] at hw ⊢
      simp -dsimp -implicitDefEqProofs (disch := omega) only [go_sem, reqD_of, dec_t, dec_f, wrap_i64, wrap_u32, wrap_u64, wrap_u8, c1]
      exact call_t10 ok hs h1' hw h4 (by simp -dsimp -implicitDefEqProofs only [go_sem]) (by simp -dsimp -implicitDefEqProofs only [go_sem]) (by simp -dsimp -implicitDefEqProofs only [go_sem]) (by simp -dsimp -implicitDefEqProofs only [go_sem]) (by simp -dsimp -implicitDefEqProofs only [go_sem]) (by simp -dsimp -implicitDefEqProofs only [go_sem])
    · simp -dsimp -implicitDefEqProofs (disch := omega) only [go_sem, reqD_of, dec_t, dec_f, wrap_i64, wrap_u32, wrap_u64, wrap_u8, c1, c2]
      exact err _ 82 h4 (by unfold callF; rw [if_neg h1', if_neg (by simp [g5]), hc]; simp only; rw [if_neg (by omega)])
end
end Go.Proofs.YtijnmokpihhhcaaDoor

namespace Go.Proofs.YtijnmokpihhhcaaDoor
open Go
set_option linter.unusedVariables false
set_option linter.unusedSimpArgs false
set_option maxRecDepth 100000

section
variable {w0 w : World} {A : HP} {b B K : Nat} {s : SD} {y : SX} {X1 X2 : List NN} {x : NN} {o : OpD} {vd : Value} {e : FA} {R : Ending → World → Prop}

theorem doF_turn {d : NodeD} (hk : 1 ≤ o.kind ∧ o.kind ≤ 3) (hf : findN s.L o.path = some d) : doF s o = if o.kind = 1 then makeF s d o.node else if o.kind = 2 then delF s d else callF s d o.name := by
  unfold doF
  rw [if_neg (by omega), hf]
  simp only
  split
  · rfl
  split
  · rfl
  · rw [if_pos (by omega)]

section
attribute [local go_sem] F40.t11_eq F40.t6_eq
theorem turn_any [Gives A Tabs] (hin : OpIn o) (hk : 1 ≤ o.kind ∧ o.kind ≤ 3) (hnext : s.next < 9223372036854775808) (h : St w0 (StoreP b 0 0 s * A) w) :
    Calls Tryd.prog 40 #[.pointer (some ⟨b, 0, none⟩), .agg (opL o vd).toArray] w fun e w' => St w0 (StoreP b 0 0 (doF s o).1 * A) w' ∧ e = .returned (.tuple #[.int .u64 (doF s o).2.1, .int .i64 (doF s o).2.2]) := by
  obtain ⟨y, ok, h⟩ := h.storeO
  have hwf := do_wf ok.wf hin.ok
  refine calls_of_cwM (types := Tryd.prog.types) follows Tryd.func40 F40.code rfl (by kernel_rfl) (by show 2 ≤ 48; decide) ?_
  show cwE _ _ (fnM _ #[.tmp 4, .tmp 5] _) _ _
  unfold F40.code
  simp -dsimp -implicitDefEqProofs (disch := omega) only [go_sem, reqD_of, dec_t, dec_f, wrap_i64, wrap_u32, wrap_u64, wrap_u8]
  refine h.new fun B w1 h1 => ?_
  have h1 : St w0 (StoreQ b 0 0 s y * (opB B o vd * A)) w1 := h1.sw2
  simp -dsimp -implicitDefEqProofs (disch := omega) only [go_sem, reqD_of, dec_t, dec_f, wrap_i64, wrap_u32, wrap_u64, wrap_u8]
  refine (wlockS h1).mono ?_
  rintro e w2 ⟨h2, rfl⟩
  simp -dsimp -implicitDefEqProofs (disch := omega) only [go_sem, reqD_of, dec_t, dec_f, wrap_i64, wrap_u32, wrap_u64, wrap_u8]
  refine deferF_of ?_
  simp -dsimp -implicitDefEqProofs (disch := omega) only [go_sem, reqD_of, dec_t, dec_f, wrap_i64, wrap_u32, wrap_u64, wrap_u8, h2.drew.cl b, h2.drew.cl B]
  refine h2.drew.lkH (b := y.N) (x := (o.path : Int)) Tryd.underlying93 lawU zero_ptr ?_
  have fin : ∀ (y' : SX) (r : SD × Nat × Nat) (w' : World) (e : FA), StoreOk r.1 y' → St w0 (StoreQ b 1 (-1073741824) r.1 y' * (opB B o vd * A)) w' → doF s o = r → e.ρ 4 = .int .u64 r.2.1 → e.ρ 5 = .int .i64 r.2.2 →
      leaveD Tryd.prog [{ target := .fn (.func 53) #[], args := #[.pointer (some ⟨b, 0, none⟩)] }] .returning w' (endM Tryd.prog #[.tmp 4, .tmp 5] e fun e w' => St w0 (StoreP b 0 0 (doF s o).1 * A) w' ∧ e = .returned (.tuple #[.int .u64 (doF s o).2.1, .int .i64 (doF s o).2.2])) := fun y' r w' e ok' h' hr e4 e5 => by
    refine wunlockS h' fun w7 h7 => ?_
    refine endT2 ?_
    rw [e4, e5, hr]
    exact ⟨h7.drop2.ent (Ent.sep (StoreP.shut ok') (Ent.rfl' A)), rfl⟩
  cases hf : findN s.L o.path with
  | none =>
    rw [ok.none hf]
    have hr : doF s o = (s, 0, 80) := by unfold doF; rw [if_neg (by omega), hf]
    simp -dsimp -implicitDefEqProofs (disch := omega) only [go_sem, reqD_of, dec_t, dec_f, wrap_i64, wrap_u32, wrap_u64, wrap_u8, lkV]
    exact fin y (s, 0, 80) _ _ ok h2.drew hr (by simp -dsimp -implicitDefEqProofs only [go_sem]) (by simp -dsimp -implicitDefEqProofs only [go_sem])
  | some d =>
    obtain ⟨X1, x, X2, hs, rfl, hx, hl⟩ := ok.some hf
    rw [hl]
    have hr := doF_turn (s := s) (o := o) hk hf
    have h3 := h2.drew
    rcases Nat.lt_or_ge o.kind 2 with hk1 | hk1
    · have k1 : (o.kind : Int) = 1 := by omega
      rw [if_pos (by omega)] at hr
      have hrow := h3.rowAtH B 4 13 (by simp)
      simp only [List.drop_succ_cons, List.drop_zero, List.take_succ_cons, List.take_zero] at hrow
      simp -dsimp -implicitDefEqProofs (disch := omega) only [go_sem, reqD_of, dec_t, dec_f, wrap_i64, wrap_u32, wrap_u64, wrap_u8, lkV, h3.cl B, k1, hrow]
      rw [hr] at hwf
      refine (makes_any (t := o.node) ok hs ⟨hin.ok.mode, hin.nname, hin.uid, hin.gid, hin.muid⟩ hnext hwf h3).mono ?_
      rintro e w5 ⟨y', ok', h5, rfl⟩
      simp -dsimp -implicitDefEqProofs (disch := omega) only [go_sem, reqD_of, dec_t, dec_f, wrap_i64, wrap_u32, wrap_u64, wrap_u8]
      exact fin y' _ _ _ ok' h5 hr (by simp -dsimp -implicitDefEqProofs only [go_sem]) (by simp -dsimp -implicitDefEqProofs only [go_sem])
    have k1 : ¬ (o.kind : Int) = 1 := by omega
    rw [if_neg (by omega)] at hr
    rcases Nat.lt_or_ge o.kind 3 with hk2 | hk2
    · have k2 : (o.kind : Int) = 2 := by omega
      rw [if_pos (by omega)] at hr
      simp -dsimp -implicitDefEqProofs (disch := omega) only [go_sem, reqD_of, dec_t, dec_f, wrap_i64, wrap_u32, wrap_u64, wrap_u8, lkV, h3.cl B, k1, k2]
      rw [hr] at hwf
      refine (drop_any ok hs hwf h3).mono ?_
      rintro e w5 ⟨y', ok', h5, rfl⟩
      simp -dsimp -implicitDefEqProofs (disch := omega) only [go_sem, reqD_of, dec_t, dec_f, wrap_i64, wrap_u32, wrap_u64, wrap_u8]
      exact fin y' _ _ _ ok' h5 hr (by simp -dsimp -implicitDefEqProofs only [go_sem]) (by simp -dsimp -implicitDefEqProofs only [go_sem])
    have k2 : ¬ (o.kind : Int) = 2 := by omega
    rw [if_neg (by omega)] at hr
    simp -dsimp -implicitDefEqProofs (disch := omega) only [go_sem, reqD_of, dec_t, dec_f, wrap_i64, wrap_u32, wrap_u64, wrap_u8, lkV, h3.cl B, k1, k2]
    rw [hr] at hwf
    refine (call_any ok hs hin.name hwf h3).mono ?_
    rintro e w5 ⟨y', ok', h5, rfl⟩
    simp -dsimp -implicitDefEqProofs (disch := omega) only [go_sem, reqD_of, dec_t, dec_f, wrap_i64, wrap_u32, wrap_u64, wrap_u8]
    exact fin y' _ _ _ ok' h5 hr (by simp -dsimp -implicitDefEqProofs only [go_sem]) (by simp -dsimp -implicitDefEqProofs only [go_sem])

end
section
attribute [local go_sem] F20.t2_eq F20.t6_eq F20.t30_eq F20.t28_eq F20.t11_eq
theorem do_t11 [Gives A Tabs] [Gives A (RdB vd o.data)] (hin : OpIn o) (hk : 4 ≤ o.kind ∧ o.kind ≤ 7) (h : St w0 (StoreP b 0 0 s * (opB B o vd * A)) w)
    (hd : e.ds = []) (e0 : e.ρ 0 = .pointer (some ⟨b, 0, none⟩)) (e3 : e.ρ 3 = .pointer (some ⟨B, 0, none⟩))
    (hR : ∀ w', St w0 (StoreP b 0 0 (doF s o).1 * A) w' → R (.returned (.tuple #[.int .u64 (doF s o).2.1, .int .i64 (doF s o).2.2])) w') :
    cwE Tryd.prog F20.t11 (fnM Tryd.prog #[.tmp 4, .tmp 5] R) e w := by
  obtain ⟨y, ok, h⟩ := h.storeO
  rw [F20.t11_eq]
  simp -dsimp -implicitDefEqProofs (disch := omega) only [go_sem, reqD_of, dec_t, dec_f, wrap_i64, wrap_u32, wrap_u64, wrap_u8, hd, e0, e3]
  refine (rlockS h).mono ?_
  rintro e' w1 ⟨h1, rfl⟩
  simp -dsimp -implicitDefEqProofs (disch := omega) only [go_sem, reqD_of, dec_t, dec_f, wrap_i64, wrap_u32, wrap_u64, wrap_u8, hd, e0, e3]
  refine deferF_of ?_
  simp -dsimp -implicitDefEqProofs (disch := omega) only [go_sem, reqD_of, dec_t, dec_f, wrap_i64, wrap_u32, wrap_u64, wrap_u8, hd, e0, e3, h1.drew.cl b, h1.drew.cl B]
  refine h1.drew.lkH (b := y.N) (x := (o.path : Int)) Tryd.underlying93 lawU zero_ptr ?_
  cases hf : findN s.L o.path with
  | none =>
    rw [ok.none hf]
    have hr : doF s o = (s, 0, 80) := by unfold doF; rw [if_neg (by omega), hf]
    rw [hr] at hR
    simp -dsimp -implicitDefEqProofs (disch := omega) only [go_sem, reqD_of, dec_t, dec_f, wrap_i64, wrap_u32, wrap_u64, wrap_u8, lkV, hd, e0, e3]
    refine runlockS h1.drew fun w2 h2 => ?_
    refine endT2 ?_
    have := hR w2 (h2.drop2.ent (Ent.sep (StoreP.shut ok) (Ent.rfl' A)))
    simp -dsimp -implicitDefEqProofs only [go_sem]
    exact this
  | some d =>
    obtain ⟨X1, x, X2, hs, rfl, hx, hl⟩ := ok.some hf
    rw [hl]
    simp -dsimp -implicitDefEqProofs (disch := omega) only [go_sem, reqD_of, dec_t, dec_f, wrap_i64, wrap_u32, wrap_u64, wrap_u8, lkV, hd, e0, e3]
    exact do_t16 (vd := vd) (B := B) hin hk ok hs hf (h1.drew.ac (StoreQ.eq hs)) (by simp -dsimp -implicitDefEqProofs only [go_sem, hd, e0]) (by simp -dsimp -implicitDefEqProofs only [go_sem, e3]) (by simp -dsimp -implicitDefEqProofs only [go_sem]) hR

end
section
attribute [local go_sem] F20.t2_eq F20.t6_eq F20.t30_eq F20.t28_eq F20.t16_eq
theorem do_any [Gives A Tabs] [Gives A (RdB vd o.data)] (hin : OpIn o) (hkind : o.kind < 256) (hnext : s.next < 9223372036854775808) (h : St w0 (StoreP b 0 0 s * A) w) :
    Calls Tryd.prog 20 #[.pointer (some ⟨b, 0, none⟩), .agg (opL o vd).toArray] w fun e w' => St w0 (StoreP b 0 0 (doF s o).1 * A) w' ∧ e = .returned (.tuple #[.int .u64 (doF s o).2.1, .int .i64 (doF s o).2.2]) := by
  refine calls_of_cwM (types := Tryd.prog.types) follows Tryd.func20 F20.code rfl (by kernel_rfl) (by show 2 ≤ 82; decide) ?_
  show cwE _ _ (fnM _ #[.tmp 4, .tmp 5] _) _ _
  unfold F20.code
  simp -dsimp -implicitDefEqProofs (disch := omega) only [go_sem, reqD_of, dec_t, dec_f, wrap_i64, wrap_u32, wrap_u64, wrap_u8]
  refine h.new fun B w1 h1 => ?_
  have h1 : St w0 (StoreP b 0 0 s * (opB B o vd * A)) w1 := h1.sw2
  have hrow := h1.rowH B 20 rfl
  by_cases hk : 1 ≤ o.kind ∧ o.kind ≤ 3
  · have turn : ∀ (R : Ending → World → Prop), (∀ w', St w0 (StoreP b 0 0 (doF s o).1 * A) w' → R (.returned (.tuple #[.int .u64 (doF s o).2.1, .int .i64 (doF s o).2.2])) w') → Calls Tryd.prog 40 #[.pointer (some ⟨b, 0, none⟩), .agg (opL o vd).toArray] w1 R := fun R hR => by
      refine (turn_any (vd := vd) hin hk hnext h1).mono ?_
      rintro e w2 ⟨h2, rfl⟩
      exact hR _ h2.drop2
    rcases (by omega : o.kind = 1 ∨ o.kind = 2 ∨ o.kind = 3) with k | k | k
    · have k1 : (o.kind : Int) = 1 := by omega
      simp -dsimp -implicitDefEqProofs (disch := omega) only [go_sem, reqD_of, dec_t, dec_f, wrap_i64, wrap_u32, wrap_u64, wrap_u8, h1.cl B, k1, hrow]
      refine (turn_any (vd := vd) hin hk hnext h1).mono ?_
      rintro e w2 ⟨h2, rfl⟩
      simp -dsimp -implicitDefEqProofs (disch := omega) only [go_sem, reqD_of, dec_t, dec_f, wrap_i64, wrap_u32, wrap_u64, wrap_u8]
      refine endT2 ?_
      simp -dsimp -implicitDefEqProofs only [go_sem]
      exact h2.drop2
    · have k1 : ¬ (o.kind : Int) = 1 := by omega
      have k2 : (o.kind : Int) = 2 := by omega
      simp -dsimp -implicitDefEqProofs (disch := omega) only [go_sem, reqD_of, dec_t, dec_f, wrap_i64, wrap_u32, wrap_u64, wrap_u8, h1.cl B, k1, k2, hrow]
      refine (turn_any (vd := vd) hin hk hnext h1).mono ?_
      rintro e w2 ⟨h2, rfl⟩
      simp -dsimp -implicitDefEqProofs (disch := omega) only [go_sem, reqD_of, dec_t, dec_f, wrap_i64, wrap_u32, wrap_u64, wrap_u8]
      refine endT2 ?_
      simp -dsimp -implicitDefEqProofs only [go_sem]
      exact h2.drop2
    · have k1 : ¬ (o.kind : Int) = 1 := by omega
      have k2 : ¬ (o.kind : Int) = 2 := by omega
      have k3 : (o.kind : Int) = 3 := by omega
      simp -dsimp -implicitDefEqProofs (disch := omega) only [go_sem, reqD_of, dec_t, dec_f, wrap_i64, wrap_u32, wrap_u64, wrap_u8, h1.cl B, k1, k2, k3, hrow]
      refine (turn_any (vd := vd) hin hk hnext h1).mono ?_
      rintro e w2 ⟨h2, rfl⟩
      simp -dsimp -implicitDefEqProofs (disch := omega) only [go_sem, reqD_of, dec_t, dec_f, wrap_i64, wrap_u32, wrap_u64, wrap_u8]
      refine endT2 ?_
      simp -dsimp -implicitDefEqProofs only [go_sem]
      exact h2.drop2
  have k1 : ¬ (o.kind : Int) = 1 := by omega
  have k2 : ¬ (o.kind : Int) = 2 := by omega
  have k3 : ¬ (o.kind : Int) = 3 := by omega
  by_cases hk4 : 4 ≤ o.kind ∧ o.kind ≤ 7
  case neg =>
    have hr : doF s o = (s, 0, 1) := by unfold doF; rw [if_pos (by omega)]
    have k4 : ¬ (o.kind : Int) = 4 := by omega
    have k5 : ¬ (o.kind : Int) = 5 := by omega
    have k6 : ¬ (o.kind : Int) = 6 := by omega
    have k7 : ¬ (o.kind : Int) = 7 := by omega
    rw [hr]
    simp -dsimp -implicitDefEqProofs (disch := omega) only [go_sem, reqD_of, dec_t, dec_f, wrap_i64, wrap_u32, wrap_u64, wrap_u8, h1.cl B, k1, k2, k3, k4, k5, k6, k7]
    refine endT2 ?_
    simp -dsimp -implicitDefEqProofs only [go_sem]
    exact h1.drop2
  have go : ∀ (e : FA), e.ds = [] → e.ρ 0 = .pointer (some ⟨b, 0, none⟩) → e.ρ 3 = .pointer (some ⟨B, 0, none⟩) → cwE Tryd.prog F20.t11 (fnM Tryd.prog #[.tmp 4, .tmp 5] fun e w' => St w0 (StoreP b 0 0 (doF s o).1 * A) w' ∧ e = .returned (.tuple #[.int .u64 (doF s o).2.1, .int .i64 (doF s o).2.2])) e w1 := fun e hd e0 e3 =>
    do_t11 hin hk4 h1 hd e0 e3 fun w' h' => ⟨h', rfl⟩
  rcases (by omega : o.kind = 4 ∨ o.kind = 5 ∨ o.kind = 6 ∨ o.kind = 7) with k | k | k | k
  · have k4 : (o.kind : Int) = 4 := by omega
    simp -dsimp -implicitDefEqProofs (disch := omega) only [go_sem, reqD_of, dec_t, dec_f, wrap_i64, wrap_u32, wrap_u64, wrap_u8, h1.cl B, k1, k2, k3, k4]
    exact go _ (by simp -dsimp -implicitDefEqProofs only [go_sem]) (by simp -dsimp -implicitDefEqProofs only [go_sem]) (by simp -dsimp -implicitDefEqProofs only [go_sem])
  · have k4 : ¬ (o.kind : Int) = 4 := by omega
    have k5 : (o.kind : Int) = 5 := by omega
    simp -dsimp -implicitDefEqProofs (disch := omega) only [go_sem, reqD_of, dec_t, dec_f, wrap_i64, wrap_u32, wrap_u64, wrap_u8, h1.cl B, k1, k2, k3, k4, k5]
    exact go _ (by simp -dsimp -implicitDefEqProofs only [go_sem]) (by simp -dsimp -implicitDefEqProofs only [go_sem]) (by simp -dsimp -implicitDefEqProofs only [go_sem])
  · have k4 : ¬ (o.kind : Int) = 4 := by omega
    have k5 : ¬ (o.kind : Int) = 5 := by omega
    have k6 : (o.kind : Int) = 6 := by omega
    simp -dsimp -implicitDefEqProofs (disch := omega) only [go_sem, reqD_of, dec_t, dec_f, wrap_i64, wrap_u32, wrap_u64, wrap_u8, h1.cl B, k1, k2, k3, k4, k5, k6]
    exact go _ (by simp -dsimp -implicitDefEqProofs only [go_sem]) (by simp -dsimp -implicitDefEqProofs only [go_sem]) (by simp -dsimp -implicitDefEqProofs only [go_sem])
  · have k4 : ¬ (o.kind : Int) = 4 := by omega
    have k5 : ¬ (o.kind : Int) = 5 := by omega
    have k6 : ¬ (o.kind : Int) = 6 := by omega
    have k7 : (o.kind : Int) = 7 := by omega
    simp -dsimp -implicitDefEqProofs (disch := omega) only [go_sem, reqD_of, dec_t, dec_f, wrap_i64, wrap_u32, wrap_u64, wrap_u8, h1.cl B, k1, k2, k3, k4, k5, k6, k7]
    exact go _ (by simp -dsimp -implicitDefEqProofs only [go_sem]) (by simp -dsimp -implicitDefEqProofs only [go_sem]) (by simp -dsimp -implicitDefEqProofs only [go_sem])
end
end
end Go.Proofs.YtijnmokpihhhcaaDoor

namespace Go.Proofs.YtijnmokpihhhcaaDoor
open Go
set_option linter.unusedVariables false
set_option linter.unusedSimpArgs false
set_option maxRecDepth 100000

/-- A configuration. -/
structure CfgD where
  users : List UInt8
  owner : List UInt8
  group : List UInt8
  perm : Nat
  v4 : Int
  v5 : Int
  v6 : Int
  v7 : Int
  nodes : Int
  v9 : Int
abbrev cfgL (c : CfgD) : List Value := [.string (strOf c.users), .string (strOf c.owner), .string (strOf c.group), .int .u32 c.perm, .int .u64 c.v4, .int .u32 c.v5, .int .i64 c.v6, .int .i64 c.v7, .int .i64 c.nodes, .int .i64 c.v9]
def rootD (c : CfgD) : NodeD := ⟨⟨1, 1, [47], 2147483648 ||| c.perm, c.owner, c.group, c.owner, 0, 0, 0, 0, 0, 0⟩, []⟩
def newF (c : CfgD) : Except Nat SD :=
  if c.nodes < 1 ∨ 4096 < c.nodes ∨ ¬ c.perm &&& 4294966784 = 0 then .error 1
  else if c.owner = [] ∨ c.group = [] ∨ userF c.owner = false ∨ userF c.group = false then .error 1
  else .ok ⟨c.nodes.toNat, 2, [rootD c]⟩
structure CfgIn (c : CfgD) : Prop where
  perm : c.perm < 4294967296
  n0 : -9223372036854775808 ≤ c.nodes
  n1 : c.nodes ≤ 9223372036854775807
  owner : c.owner.length ≤ 4294967296
  group : c.group.length ≤ 4294967296

theorem bPerm {P : Program} {T : TypeId} {m : Nat} (hm : m < 4294967296) : binV P .andNot T (.int .u32 m) (.int .u32 511) = some (.int .u32 ((m &&& 4294966784 : Nat) : Int)) := by
  rw [bNot32 hm (by omega)]
  rfl
theorem bDirO {P : Program} {T : TypeId} {m : Nat} (hm : m < 4294967296) : binV P .or T (.int .u32 2147483648) (.int .u32 m) = some (.int .u32 ((2147483648 ||| m : Nat) : Int)) := by
  rw [bOr32 hm (by omega)]
  rfl

theorem root_wf {c : CfgD} (hc : CfgIn c) (h1 : ¬ (c.nodes < 1 ∨ 4096 < c.nodes)) (g1 : userF c.owner = true) (g2 : userF c.group = true) : Wf ⟨c.nodes.toNat, 2, [rootD c]⟩ := by
  have hm : 2147483648 ||| c.perm < 4294967296 := Nat.or_lt_two_pow (n := 32) (by decide) hc.perm
  have hd : dirF (2147483648 ||| c.perm) = true := by unfold dirF; exact decide_eq_true Nat.left_le_or
  have u1 := userF_len g1
  have u2 := userF_len g2
  refine ⟨?_, by simp, ?_, ⟨rootD c, rfl, rfl, hd⟩, ?_, ?_, by simp; omega, by simp; omega⟩
  · intro n hn
    simp only [List.mem_cons, List.not_mem_nil, or_false] at hn
    subst hn
    exact ⟨rfl, by simp [rootD], rfl, hm, by simp [rootD], by simp [rootD], by simp [rootD], by simp [rootD], by simp [rootD], fun _ => rfl, by simp [rootD], u1, u2, u1⟩
  · intro n hn
    simp only [List.mem_cons, List.not_mem_nil, or_false] at hn
    subst hn
    exact ⟨by simp [rootD], by simp [rootD]⟩
  · intro n hn h
    simp only [List.mem_cons, List.not_mem_nil, or_false] at hn
    subst hn
    exact absurd rfl h
  · intro a ha b hb h
    simp only [List.mem_cons, List.not_mem_nil, or_false] at ha
    subst ha
    exact absurd rfl h

section
variable {w0 w : World} {A : HP} {c : CfgD}
section
attribute [local go_sem] F13.t5_eq F13.t3_eq
theorem new_any [Gives A Tabs] (hc : CfgIn c) (h : St w0 A w) :
    Calls Tryd.prog 13 #[.agg (cfgL c).toArray] w fun e w' => match newF c with
      | .error k => St w0 A w' ∧ e = .returned (.tuple #[.pointer none, .int .i64 k])
      | .ok s => ∃ b, St w0 (StoreP b 0 0 s * A) w' ∧ e = .returned (.tuple #[.pointer (some ⟨b, 0, none⟩), .int .i64 0]) := by
  refine F13.calls (by simp) ?_
  unfold F13.code
  simp -dsimp -implicitDefEqProofs (disch := omega) only [go_sem, reqD_of, dec_t, dec_f, wrap_i64, wrap_u32, wrap_u64, wrap_u8]
  refine h.new fun B w1 h1 => ?_
  have hp := bPerm (P := Tryd.prog) (T := 29) hc.perm
  by_cases c1 : c.nodes < 1
  · have hr : newF c = .error 1 := by unfold newF; rw [if_pos (.inl c1)]
    rw [hr]
    simp -dsimp -implicitDefEqProofs (disch := omega) only [go_sem, reqD_of, dec_t, dec_f, wrap_i64, wrap_u32, wrap_u64, wrap_u8, h1.cl B, c1, hp]
    exact h1.right
  by_cases c2 : 4096 < c.nodes
  · have hr : newF c = .error 1 := by unfold newF; rw [if_pos (.inr (.inl c2))]
    rw [hr]
    simp -dsimp -implicitDefEqProofs (disch := omega) only [go_sem, reqD_of, dec_t, dec_f, wrap_i64, wrap_u32, wrap_u64, wrap_u8, h1.cl B, c1, c2, hp]
    exact h1.right
  by_cases c3 : ((c.perm &&& 4294966784 : Nat) : Int) = 0
  case neg =>
    have hr : newF c = .error 1 := by unfold newF; rw [if_pos (.inr (.inr (by omega)))]
    rw [hr]
    simp -dsimp -implicitDefEqProofs (disch := omega) only [go_sem, reqD_of, dec_t, dec_f, wrap_i64, wrap_u32, wrap_u64, wrap_u8, h1.cl B, c1, c2, hp, c3]
    exact h1.right
  have hn1 : ¬ (c.nodes < 1 ∨ 4096 < c.nodes ∨ ¬ c.perm &&& 4294966784 = 0) := by omega
  by_cases c4 : c.owner = []
  · have hr : newF c = .error 1 := by unfold newF; rw [if_neg hn1, if_pos (.inl c4)]
    rw [hr]
    have e4 : decide (c.owner = []) = true := decide_eq_true c4
    simp -dsimp -implicitDefEqProofs (disch := omega) only [go_sem, reqD_of, dec_t, dec_f, wrap_i64, wrap_u32, wrap_u64, wrap_u8, h1.cl B, c1, c2, hp, c3, e4]
    exact h1.right
  by_cases c5 : c.group = []
  · have hr : newF c = .error 1 := by unfold newF; rw [if_neg hn1, if_pos (.inr (.inl c5))]
    rw [hr]
    have e5 : decide (c.group = []) = true := decide_eq_true c5
    simp -dsimp -implicitDefEqProofs (disch := omega) only [go_sem, reqD_of, dec_t, dec_f, wrap_i64, wrap_u32, wrap_u64, wrap_u8, h1.cl B, c1, c2, hp, c3, c4, e5]
    exact h1.right
  simp -dsimp -implicitDefEqProofs (disch := omega) only [go_sem, reqD_of, dec_t, dec_f, wrap_i64, wrap_u32, wrap_u64, wrap_u8, h1.cl B, c1, c2, hp, c3, c4, c5]
  refine (mayUser_any h1 (Nat.le_trans hc.owner (by omega))).mono ?_
  rintro e w2 ⟨h2, rfl⟩
  cases g1 : userF c.owner
  case false =>
    have hr : newF c = .error 1 := by unfold newF; rw [if_neg hn1, if_pos (.inr (.inr (.inl g1)))]
    rw [hr]
    simp -dsimp -implicitDefEqProofs (disch := omega) only [go_sem, reqD_of, dec_t, dec_f, wrap_i64, wrap_u32, wrap_u64, wrap_u8]
    exact h2.right
  simp -dsimp -implicitDefEqProofs (disch := omega) only [go_sem, reqD_of, dec_t, dec_f, wrap_i64, wrap_u32, wrap_u64, wrap_u8, h2.cl B]
  refine (mayUser_any h2 (Nat.le_trans hc.group (by omega))).mono ?_
  rintro e w3 ⟨h3, rfl⟩
  cases g2 : userF c.group
  case false =>
    have hr : newF c = .error 1 := by unfold newF; rw [if_neg hn1, if_pos (.inr (.inr (.inr g2)))]
    rw [hr]
    simp -dsimp -implicitDefEqProofs (disch := omega) only [go_sem, reqD_of, dec_t, dec_f, wrap_i64, wrap_u32, wrap_u64, wrap_u8]
    exact h3.right
  have hr : newF c = .ok ⟨c.nodes.toNat, 2, [rootD c]⟩ := by
    unfold newF
    rw [if_neg hn1, if_neg (by simp [c4, c5, g1, g2])]
  rw [hr]
  have ho := bDirO (P := Tryd.prog) (T := 29) hc.perm
  simp -dsimp -implicitDefEqProofs (disch := omega) only [go_sem, reqD_of, dec_t, dec_f, wrap_i64, wrap_u32, wrap_u64, wrap_u8, h3.cl B, ho]
  refine onV_of (v := .agg (infL (rootD c).i).toArray) (by kernel_rfl) ?_
  simp -dsimp -implicitDefEqProofs (disch := omega) only [go_sem, reqD_of, dec_t, dec_f, wrap_i64, wrap_u32, wrap_u64, wrap_u8]
  refine onV_of (v := .agg (nodeC 0 (rootD c).i (.slice none 0 0) (.slice none 0 0))) (by kernel_rfl) ?_
  simp -dsimp -implicitDefEqProofs (disch := omega) only [go_sem, reqD_of, dec_t, dec_f, wrap_i64, wrap_u32, wrap_u64, wrap_u8]
  refine h3.new fun M w4 h4 => ?_
  simp -dsimp -implicitDefEqProofs (disch := omega) only [go_sem, reqD_of, dec_t, dec_f, wrap_i64, wrap_u32, wrap_u64, wrap_u8, h4.cl B]
  refine h4.makeMap (enc := encU) fun N w5 h5 => ?_
  simp -dsimp -implicitDefEqProofs (disch := omega) only [go_sem, reqD_of, dec_t, dec_f, wrap_i64, wrap_u32, wrap_u64, wrap_u8, h5.cl B]
  refine h5.updH (b := N) (x := (1 : Int)) Tryd.underlying93 lawU fun w6 h6 => ?_
  simp -dsimp -implicitDefEqProofs (disch := omega) only [go_sem, reqD_of, dec_t, dec_f, wrap_i64, wrap_u32, wrap_u64, wrap_u8, h6.cl B]
  refine h6.lit (t := 63) (n := 1) (cells := [u64V 1]) rowTy_u64 rfl (by decide) (by decide) fun v7 w7 h7 => ?_
  obtain ⟨a7, c7, rfl, _⟩ := h7.rowForm v7
  simp -dsimp -implicitDefEqProofs (disch := omega) only [go_sem, reqD_of, dec_t, dec_f, wrap_i64, wrap_u32, wrap_u64, wrap_u8, h7.cl B]
  refine h7.makeMap (enc := encK) fun C w8 h8 => ?_
  simp -dsimp -implicitDefEqProofs (disch := omega) only [go_sem, reqD_of, dec_t, dec_f, wrap_i64, wrap_u32, wrap_u64, wrap_u8, h8.cl B]
  refine onV_of (v := .agg (storeC 0 0 c.nodes.toNat 2 (.map (some N)) (.slice a7 1 c7) (.map (some C)))) ?_ ?_
  · have hn' : Value.int .i64 c.nodes = .int .i64 ((c.nodes.toNat : Nat) : Int) := by
      congr 1
      omega
    rw [hn']
    rfl
  simp -dsimp -implicitDefEqProofs (disch := omega) only [go_sem, reqD_of, dec_t, dec_f, wrap_i64, wrap_u32, wrap_u64, wrap_u8]
  refine h8.new fun b w9 h9 => ?_
  simp -dsimp -implicitDefEqProofs (disch := omega) only [go_sem, reqD_of, dec_t, dec_f, wrap_i64, wrap_u32, wrap_u64, wrap_u8]
  have hw := root_wf hc (by omega) g1 g2
  have ok : StoreOk ⟨c.nodes.toNat, 2, [rootD c]⟩ ⟨N, C, .slice a7 1 c7, [⟨rootD c, M, .slice none 0 0, .slice none 0 0, [], []⟩], []⟩ := by
    refine ⟨hw, List.Perm.refl _, fun z hz => ?_, fun z hz => ?_, fun dir nm => ?_⟩
    · simp only [List.mem_cons, List.not_mem_nil, or_false] at hz
      subst hz; rfl
    · simp only [List.mem_cons, List.not_mem_nil, or_false] at hz
      subst hz
      exact ⟨by simp, by simp, fun k _ => by simp [byteAt, rootD]⟩
    · have : isKid dir (rootD c) = false := by simp [isKid, rootD]
      simp [lk, childF, List.find?, this]
  have h10 := (h9.nilR 30 1).nilR 122 1
  have h11 := h10.ent (Ent.embL _)
  have h12 := h11.ent (Ent.embL _)
  have h13 : St w0 (Blk B (.cells (cfgL c).toArray 32 (0, 0)) * (Blk b (.cells (storeC 0 0 c.nodes.toNat 2 (.map (some N)) (.slice a7 1 c7) (.map (some C))) 101 (0, 0)) * (MapP encU N (upd (1 : Int) (.pointer (some ⟨M, 0, none⟩)) []) * (MapP encK C [] * (RowO 30 1 (.slice a7 1 c7) 1 [u64V 1] *
      (Blk M (.cells (nodeC 0 (rootD c).i (.slice none 0 0) (.slice none 0 0)) 92 (0, 0)) * (RowO 30 1 (.slice none 0 0) 0 [] * (RowO 122 1 (.slice none 0 0) 0 [] * EmpH)) * EmpH)))) * A)) w9 := h12.ac (by ac_rfl)
  have h14 : St w0 (StoreQ b 0 0 ⟨c.nodes.toNat, 2, [rootD c]⟩ ⟨N, C, .slice a7 1 c7, [⟨rootD c, M, .slice none 0 0, .slice none 0 0, [], []⟩], []⟩ * A) w9 := h13.right
  exact ⟨b, h14.ent (Ent.sep (StoreP.shut ok) (Ent.rfl' A)), rfl⟩
end
end
end Go.Proofs.YtijnmokpihhhcaaDoor

namespace Go.Proofs.YtijnmokpihhhcaaDoor
open Go
set_option linter.unusedVariables false
set_option linter.unusedSimpArgs false
set_option maxRecDepth 100000

abbrev ann : List UInt8 := [97, 110, 110]
abbrev staff : List UInt8 := [115, 116, 97, 102, 102]
def storeCfg (most : Int) : CfgD := ⟨[], ann, staff, 493, 0, 0, 0, 0, most, 0⟩
/-- A store of so many nodes at most. -/
def storeF (n : Nat) : SD := ⟨n, 2, [rootD (storeCfg n)]⟩
theorem storeCfg_in {most : Int} (h : -9223372036854775808 ≤ most ∧ most ≤ 9223372036854775807) : CfgIn (storeCfg most) := ⟨by show (493 : Nat) < _; decide, h.1, h.2, by show ann.length ≤ _; decide, by show staff.length ≤ _; decide⟩
theorem newF_store {n : Nat} (h : 1 ≤ n ∧ n ≤ 4096) : newF (storeCfg n) = .ok (storeF n) := by
  unfold newF
  have h0 : 493 &&& 4294966784 = 0 := by decide
  have g1 : userF ann = true := by decide
  have g2 : userF staff = true := by decide
  have e1 : ¬ ((storeCfg n).nodes < 1 ∨ 4096 < (storeCfg n).nodes ∨ ¬ (storeCfg n).perm &&& 4294966784 = 0) := by
    show ¬ ((n : Int) < 1 ∨ 4096 < (n : Int) ∨ ¬ 493 &&& 4294966784 = 0)
    rw [h0]; omega
  have e2 : ¬ ((storeCfg n).owner = [] ∨ (storeCfg n).group = [] ∨ userF (storeCfg n).owner = false ∨ userF (storeCfg n).group = false) := by
    show ¬ (ann = [] ∨ staff = [] ∨ userF ann = false ∨ userF staff = false)
    rw [g1, g2]; decide
  rw [if_neg e1, if_neg e2]
  rfl

section
variable {w0 w : World} {A : HP}
section
attribute [local go_sem] F19.t4_eq
theorem store_any [Gives A Tabs] {n : Nat} (hn : 1 ≤ n ∧ n ≤ 4096) (h : St w0 A w) :
    Calls Tryd.prog 19 #[.int .i64 n] w fun e w' => ∃ b, St w0 (StoreP b 0 0 (storeF n) * A) w' ∧ e = .returned (.pointer (some ⟨b, 0, none⟩)) := by
  refine F19.calls (by simp) ?_
  unfold F19.code
  simp -dsimp -implicitDefEqProofs (disch := omega) only [go_sem, reqD_of, dec_t, dec_f, wrap_i64, wrap_u32, wrap_u64, wrap_u8]
  refine onV_of (v := .agg (cfgL (storeCfg n)).toArray) (by kernel_rfl) ?_
  simp -dsimp -implicitDefEqProofs (disch := omega) only [go_sem, reqD_of, dec_t, dec_f, wrap_i64, wrap_u32, wrap_u64, wrap_u8]
  refine (new_any (c := storeCfg n) (storeCfg_in (by omega)) h).mono ?_
  intro e w1 hq
  rw [newF_store hn] at hq
  obtain ⟨b, h1, rfl⟩ := hq
  simp -dsimp -implicitDefEqProofs (disch := omega) only [go_sem, reqD_of, dec_t, dec_f, wrap_i64, wrap_u32, wrap_u64, wrap_u8]
  exact ⟨b, h1, rfl⟩

/-- An operation: a new node. -/
def makF (p : Nat) (nm : List UInt8) (m : Nat) : OpD := ⟨1, p, nm.take 0, 0, ⟨0, 0, nm, m, ann, staff, ann, 0, 0, 0, 0, 0, 0⟩, 0, [], 0⟩
end

theorem mak_any (h : St w0 A w) {p m : Nat} {nm : List UInt8} :
    Calls Tryd.prog 21 #[.int .u64 p, .string (strOf nm), .int .u32 m] w fun e w' => St w0 A w' ∧ e = .returned (.agg (opL (makF p nm m) (.slice none 0 0)).toArray) := by
  refine F21.calls (by simp) ?_
  unfold F21.code
  simp -dsimp -implicitDefEqProofs (disch := omega) only [go_sem, reqD_of, dec_t, dec_f, wrap_i64, wrap_u32, wrap_u64, wrap_u8]
  refine h.new fun B w1 h1 => ?_
  simp -dsimp -implicitDefEqProofs (disch := omega) only [go_sem, reqD_of, dec_t, dec_f, wrap_i64, wrap_u32, wrap_u64, wrap_u8]
  refine onV_of (v := .agg (infL (makF p nm m).node).toArray) (by kernel_rfl) ?_
  simp -dsimp -implicitDefEqProofs (disch := omega) only [go_sem, reqD_of, dec_t, dec_f, wrap_i64, wrap_u32, wrap_u64, wrap_u8]
  refine onV_of (v := .agg (opL (makF p nm m) (.slice none 0 0)).toArray) (by kernel_rfl) ?_
  simp -dsimp -implicitDefEqProofs (disch := omega) only [go_sem, reqD_of, dec_t, dec_f, wrap_i64, wrap_u32, wrap_u64, wrap_u8]
  refine h1.stoAll (b := B) (cs := opL (makF p nm m) (.slice none 0 0)) rfl rfl (by intro v hv; simp only [opL, List.mem_cons, List.not_mem_nil, or_false] at hv; rcases hv with rfl | rfl | rfl | rfl | rfl | rfl | rfl | rfl | rfl | rfl | rfl | rfl | rfl | rfl | rfl | rfl | rfl | rfl | rfl | rfl <;> rfl) fun w2 h2 => ?_
  simp -dsimp -implicitDefEqProofs (disch := omega) only [go_sem, reqD_of, dec_t, dec_f, wrap_i64, wrap_u32, wrap_u64, wrap_u8]
  refine resC_1 (a := ⟨B, 0, none⟩) (v := .agg (opL (makF p nm m) (.slice none 0 0)).toArray) (by simp -dsimp -implicitDefEqProofs only [go_sem]) (run_loadVar_row fact_aggSz_53 (h2.rowH B 20 rfl)) ?_
  exact ⟨h2.right, rfl⟩
end
end Go.Proofs.YtijnmokpihhhcaaDoor

namespace Go.Proofs.YtijnmokpihhhcaaDoor
open Go
set_option linter.unusedVariables false
set_option linter.unusedSimpArgs false
set_option maxRecDepth 100000

abbrev o1 : OpD := makF 1 [97] 2147484096
abbrev o2 : OpD := makF 2 [98] 384
abbrev o3 : OpD := makF 2 [99] 384
abbrev o4 : OpD := ⟨6, 3, [], 0, infZ, 250, [1, 2, 3, 4, 5, 6], 0⟩
abbrev o5 : OpD := ⟨6, 3, [], 0, infZ, 250, [1, 2, 3, 4, 5, 6, 7], 0⟩
def s0 : SD := storeF 3
def s1 : SD := (doF s0 o1).1
def s2 : SD := (doF s1 o2).1
def s4 : SD := (doF s2 o4).1
theorem r1 : (doF s0 o1).2 = (2, 0) := by decide
theorem r2 : (doF s1 o2).2 = (3, 0) := by decide
theorem r3 : doF s2 o2 = (s2, 0, 82) := by rfl
theorem r4 : doF s2 o3 = (s2, 0, 83) := by rfl
theorem r5 : (doF s2 o4).2 = (3, 0) := by decide
theorem r6 : doF s4 o5 = (s4, 0, 84) := by rfl
theorem r7 : readS s4 3 248 4 = [0, 0, 1, 2] := by decide
theorem r8 : (toldI s4 3).length = 256 ∧ (toldI s4 3).parent = 2 ∧ (toldI s4 3).name = [98] ∧ (findN s4.L 3).isSome = true ∧ s4.L.length = 3 := by decide
end Go.Proofs.YtijnmokpihhhcaaDoor

namespace Go.Proofs.YtijnmokpihhhcaaDoor
open Go
set_option linter.unusedVariables false
set_option linter.unusedSimpArgs false
set_option maxRecDepth 100000

theorem mak_in {p m : Nat} {nm : List UInt8} (hm : m < 4294967296) (hn : nm.length ≤ 4294967296) : OpIn (makF p nm m) :=
  ⟨⟨hm, by show (0 : Nat) < _; decide, by show (0 : Nat) < _; decide⟩, by show (0 : Nat) < _; decide, by show (0 : Nat) < _; decide, by show _ ≤ (0 : Int); decide, by show (0 : Int) ≤ _; decide, by show (0 : Nat) ≤ _; decide, by show (nm.take 0).length ≤ _; simp, hn, by show ann.length ≤ _; decide, by show staff.length ≤ _; decide, by show ann.length ≤ _; decide⟩

section
variable {w0 w : World} {A : HP}
section
attribute [local go_sem] F11.t11_eq F11.t4_eq
theorem works_any [Gives A Tabs] (h : St w0 A w) : Calls Tryd.prog 11 #[] w fun e w' => St w0 A w' ∧ e = .returned (.bool true) := by
  refine F11.calls (by simp) ?_
  unfold F11.code
  have hN := h.nilR 5 1
  haveI gN : Gives (RowO 5 1 (.slice none 0 0) 0 [] * A) (RdB (.slice none 0 0) []) := ⟨(Ent.left _ _).trans (RowO.reads _ _ _ _ _)⟩
  haveI g1 : Gives (RowO 5 1 (.slice none 0 0) 0 [] * A) (RdB (.slice none 0 0) o1.data) := gN
  haveI g2 : Gives (RowO 5 1 (.slice none 0 0) 0 [] * A) (RdB (.slice none 0 0) o2.data) := gN
  haveI g3 : Gives (RowO 5 1 (.slice none 0 0) 0 [] * A) (RdB (.slice none 0 0) o3.data) := gN
  simp -dsimp -implicitDefEqProofs (disch := omega) only [go_sem, reqD_of, dec_t, dec_f, wrap_i64, wrap_u32, wrap_u64, wrap_u8]
  refine (store_any (n := 3) (by decide) hN).mono ?_
  rintro e w1 ⟨b, h1, rfl⟩
  simp -dsimp -implicitDefEqProofs (disch := omega) only [go_sem, reqD_of, dec_t, dec_f, wrap_i64, wrap_u32, wrap_u64, wrap_u8]
  refine (next_any h1).mono ?_
  rintro e w2 ⟨h2, rfl⟩
  simp -dsimp -implicitDefEqProofs (disch := omega) only [go_sem, reqD_of, dec_t, dec_f, wrap_i64, wrap_u32, wrap_u64, wrap_u8]
  refine (mak_any (p := 1) (nm := [97]) (m := 2147484096) h2).mono ?_
  rintro e w3 ⟨h3, rfl⟩
  simp -dsimp -implicitDefEqProofs (disch := omega) only [go_sem, reqD_of, dec_t, dec_f, wrap_i64, wrap_u32, wrap_u64, wrap_u8]
  refine (do_any (o := o1) (vd := .slice none 0 0) (mak_in (by decide) (by decide)) (by decide) (by decide) h3).mono ?_
  rintro e w4 ⟨h4, rfl⟩
  have h4 : St w0 (StoreP b 0 0 s1 * (RowO 5 1 (.slice none 0 0) 0 [] * A)) w4 := h4
  rw [show (doF (storeF 3) o1).2 = (2, 0) from r1]
  simp -dsimp -implicitDefEqProofs (disch := omega) only [go_sem, reqD_of, dec_t, dec_f, wrap_i64, wrap_u32, wrap_u64, wrap_u8]
  refine (mak_any (p := 2) (nm := [98]) (m := 384) h4).mono ?_
  rintro e w5 ⟨h5, rfl⟩
  simp -dsimp -implicitDefEqProofs (disch := omega) only [go_sem, reqD_of, dec_t, dec_f, wrap_i64, wrap_u32, wrap_u64, wrap_u8]
  refine (do_any (o := o2) (vd := .slice none 0 0) (mak_in (by decide) (by decide)) (by decide) (by decide) h5).mono ?_
  rintro e w6 ⟨h6, rfl⟩
  have h6 : St w0 (StoreP b 0 0 s2 * (RowO 5 1 (.slice none 0 0) 0 [] * A)) w6 := h6
  rw [r2]
  simp -dsimp -implicitDefEqProofs (disch := omega) only [go_sem, reqD_of, dec_t, dec_f, wrap_i64, wrap_u32, wrap_u64, wrap_u8]
  refine (mak_any (p := 2) (nm := [98]) (m := 384) h6).mono ?_
  rintro e w7 ⟨h7, rfl⟩
  simp -dsimp -implicitDefEqProofs (disch := omega) only [go_sem, reqD_of, dec_t, dec_f, wrap_i64, wrap_u32, wrap_u64, wrap_u8]
  refine (do_any (o := o2) (vd := .slice none 0 0) (mak_in (by decide) (by decide)) (by decide) (by decide) h7).mono ?_
  rintro e w8 ⟨h8, rfl⟩
  rw [r3] at h8 ⊢
  simp -dsimp -implicitDefEqProofs (disch := omega) only [go_sem, reqD_of, dec_t, dec_f, wrap_i64, wrap_u32, wrap_u64, wrap_u8]
  refine (mak_any (p := 2) (nm := [99]) (m := 384) h8).mono ?_
  rintro e w9 ⟨h9, rfl⟩
  simp -dsimp -implicitDefEqProofs (disch := omega) only [go_sem, reqD_of, dec_t, dec_f, wrap_i64, wrap_u32, wrap_u64, wrap_u8]
  refine (do_any (o := o3) (vd := .slice none 0 0) (mak_in (by decide) (by decide)) (by decide) (by decide) h9).mono ?_
  rintro e w10 ⟨h10, rfl⟩
  rw [r4] at h10 ⊢
  have hn : ((storeF 3).next : Int) = 2 := rfl
  simp -dsimp -implicitDefEqProofs (disch := omega) only [go_sem, reqD_of, dec_t, dec_f, wrap_i64, wrap_u32, wrap_u64, wrap_u8, hn]
  refine h10.lit (t := 51) (n := 6) (cells := ([1, 2, 3, 4, 5, 6] : List UInt8).map bv) rowTy_bytes rfl (by decide) (by decide) fun v11 w11 h11 => ?_
  obtain ⟨a11, c11, rfl, _⟩ := h11.rowForm v11
  simp -dsimp -implicitDefEqProofs (disch := omega) only [go_sem, reqD_of, dec_t, dec_f, wrap_i64, wrap_u32, wrap_u64, wrap_u8, hn]
  refine onV_of (v := .agg (opL o4 (.slice a11 6 c11)).toArray) (by rfl) ?_
  simp -dsimp -implicitDefEqProofs (disch := omega) only [go_sem, reqD_of, dec_t, dec_f, wrap_i64, wrap_u32, wrap_u64, wrap_u8, hn]
  haveI g4 : Gives (RowO 5 1 (.slice a11 6 c11) 6 (([1, 2, 3, 4, 5, 6] : List UInt8).map bv) * (RowO 5 1 (.slice none 0 0) 0 [] * A)) (RdB (.slice a11 6 c11) o4.data) := ⟨(Ent.left _ _).trans (RowO.reads _ _ _ _ _)⟩
  have i4 : OpIn o4 := ⟨⟨by decide, by decide, by decide⟩, by decide, by decide, by decide, by decide, by decide, by decide, by decide, by decide, by decide, by decide⟩
  refine (do_any (o := o4) (vd := .slice a11 6 c11) i4 (by decide) (by decide) h11.sw2).mono ?_
  rintro e w12 ⟨h12, rfl⟩
  have h12 : St w0 (StoreP b 0 0 s4 * (RowO 5 1 (.slice none 0 0) 0 [] * A)) w12 := h12.drop2
  rw [r5]
  simp -dsimp -implicitDefEqProofs (disch := omega) only [go_sem, reqD_of, dec_t, dec_f, wrap_i64, wrap_u32, wrap_u64, wrap_u8, hn]
  refine h12.lit (t := 51) (n := 7) (cells := ([1, 2, 3, 4, 5, 6, 7] : List UInt8).map bv) rowTy_bytes rfl (by decide) (by decide) fun v13 w13 h13 => ?_
  obtain ⟨a13, c13, rfl, _⟩ := h13.rowForm v13
  simp -dsimp -implicitDefEqProofs (disch := omega) only [go_sem, reqD_of, dec_t, dec_f, wrap_i64, wrap_u32, wrap_u64, wrap_u8, hn]
  refine onV_of (v := .agg (opL o5 (.slice a13 7 c13)).toArray) (by rfl) ?_
  simp -dsimp -implicitDefEqProofs (disch := omega) only [go_sem, reqD_of, dec_t, dec_f, wrap_i64, wrap_u32, wrap_u64, wrap_u8, hn]
  haveI g5 : Gives (RowO 5 1 (.slice a13 7 c13) 7 (([1, 2, 3, 4, 5, 6, 7] : List UInt8).map bv) * (RowO 5 1 (.slice none 0 0) 0 [] * A)) (RdB (.slice a13 7 c13) o5.data) := ⟨(Ent.left _ _).trans (RowO.reads _ _ _ _ _)⟩
  have i5 : OpIn o5 := ⟨⟨by decide, by decide, by decide⟩, by decide, by decide, by decide, by decide, by decide, by decide, by decide, by decide, by decide, by decide⟩
  refine (do_any (o := o5) (vd := .slice a13 7 c13) i5 (by decide) (by decide) h13.sw2).mono ?_
  rintro e w14 ⟨h14, rfl⟩
  have h14 := h14.drop2
  rw [r6] at h14 ⊢
  simp -dsimp -implicitDefEqProofs (disch := omega) only [go_sem, reqD_of, dec_t, dec_f, wrap_i64, wrap_u32, wrap_u64, wrap_u8, hn]
  refine (sread_any (p := 3) (off := 248) (k := 4) h14 (by decide) (by decide)).mono ?_
  rintro e w15 ⟨v15, h15, rfl⟩
  rw [r7] at h15
  obtain ⟨a15, c15, rfl, _⟩ := h15.rowForm v15
  simp -dsimp -implicitDefEqProofs (disch := omega) only [go_sem, reqD_of, dec_t, dec_f, wrap_i64, wrap_u32, wrap_u64, wrap_u8, hn]
  refine (node_any (p := 3) h15.sw2).mono ?_
  rintro e w16 ⟨h16, rfl⟩
  obtain ⟨q1, q2, q3, q4, q5⟩ := r8
  simp -dsimp -implicitDefEqProofs (disch := omega) only [go_sem, reqD_of, dec_t, dec_f, wrap_i64, wrap_u32, wrap_u64, wrap_u8, hn, toldV, q4]
  refine h16.new fun D w17 h17 => ?_
  simp -dsimp -implicitDefEqProofs (disch := omega) only [go_sem, reqD_of, dec_t, dec_f, wrap_i64, wrap_u32, wrap_u64, wrap_u8, hn]
  refine h17.stoAll (b := D) (cs := infL (toldI s4 3)) rfl rfl (infL_cells _) fun w18 h18 => ?_
  simp -dsimp -implicitDefEqProofs (disch := omega) only [go_sem, reqD_of, dec_t, dec_f, wrap_i64, wrap_u32, wrap_u64, wrap_u8, hn]
  refine (count_any (h18.sw2)).mono ?_
  rintro e w19 ⟨h19, rfl⟩
  simp -dsimp -implicitDefEqProofs (disch := omega) only [go_sem, reqD_of, dec_t, dec_f, wrap_i64, wrap_u32, wrap_u64, wrap_u8, hn, q5]
  refine St.str (bs := [0, 0, 1, 2]) h19 ((Ent.right _ _).trans ((Ent.right _ _).trans ((Ent.left _ _).trans (RowO.reads _ _ _ _ _)))) Tryd.underlying51 Tryd.underlying5 Tryd.underlying9 ?_
  have e1 : ((toldI s4 3).length : Int) = 256 := by rw [q1]; rfl
  have e2 : ((toldI s4 3).parent : Int) = 2 := by rw [q2]; rfl
  simp -dsimp -implicitDefEqProofs (disch := omega) only [go_sem, reqD_of, dec_t, dec_f, wrap_i64, wrap_u32, wrap_u64, wrap_u8, hn, q5, h19.cl D, e1, e2, q3]
  exact h19.right.right.right.right

end
end
end Go.Proofs.YtijnmokpihhhcaaDoor

namespace Go.Proofs.YtijnmokpihhhcaaDoor
open Go
set_option linter.unusedVariables false
set_option linter.unusedSimpArgs false
set_option maxRecDepth 100000

section
variable {w0 w : World} {A : HP}
abbrev kC : List Value := [.int .u8 1, .int .u8 2, .int .u8 3, .int .u8 4, .int .u8 5, .int .u8 6, .int .u8 7]
abbrev mC : List Value := [.int .u8 1, .int .u8 2, .int .u8 4, .int .u8 8, .int .u8 16, .int .u8 32, .int .u8 64]
abbrev eC : List Value := [.int .i64 80, .int .i64 81, .int .i64 82, .int .i64 83, .int .i64 84, .int .i64 85, .int .i64 86, .int .i64 87]
section
attribute [local go_sem] F3.t6_eq F3.t7_eq F3.t11_eq F3.t12_eq F3.t14_eq F3.t9_eq
theorem names_any [Gives A Tabs] (h : St w0 A w) : Calls Tryd.prog 3 #[] w fun e w' => St w0 A w' ∧ e = .returned (.bool true) := by
  refine F3.calls (by simp) ?_
  unfold F3.code
  simp -dsimp -implicitDefEqProofs (disch := omega) only [go_sem, reqD_of, dec_t, dec_f, wrap_i64, wrap_u32, wrap_u64, wrap_u8]
  refine h.lit (t := 23) (n := 7) (cells := kC) (e := 22) (s := 1) (bs := 1) (zs := [.int .u8 0]) (by kernel_rfl) rfl (by decide) (by decide) fun v1 w1 h1 => ?_
  obtain ⟨a1, c1, rfl, _⟩ := h1.rowForm v1
  simp -dsimp -implicitDefEqProofs (disch := omega) only [go_sem, reqD_of, dec_t, dec_f, wrap_i64, wrap_u32, wrap_u64, wrap_u8]
  refine h1.lit (t := 25) (n := 7) (cells := mC) (e := 24) (s := 1) (bs := 1) (zs := [.int .u8 0]) (by kernel_rfl) rfl (by decide) (by decide) fun v2 w2 h2 => ?_
  obtain ⟨a2, c2, rfl, _⟩ := h2.rowForm v2
  simp -dsimp -implicitDefEqProofs (disch := omega) only [go_sem, reqD_of, dec_t, dec_f, wrap_i64, wrap_u32, wrap_u64, wrap_u8]
  refine h2.lit (t := 27) (n := 8) (cells := eC) (e := 26) (s := 1) (bs := 8) (zs := [.int .i64 0]) (by kernel_rfl) rfl (by decide) (by decide) fun v3 w3 h3 => ?_
  obtain ⟨a3, c3, rfl, _⟩ := h3.rowForm v3
  simp -dsimp -implicitDefEqProofs (disch := omega) only [go_sem, reqD_of, dec_t, dec_f, wrap_i64, wrap_u32, wrap_u64, wrap_u8]
  refine loop_intro (fun e w' => e.ds = [] ∧ e.ρ 1 = .slice a1 7 c1 ∧ e.ρ 2 = .slice a2 7 c2 ∧ e.ρ 3 = .slice a3 8 c3 ∧ ∃ i : Nat, i ≤ 7 ∧ e.ρ 4 = .int .i64 i ∧
      St w0 (RowO 26 1 (.slice a3 8 c3) 8 eC * (RowO 24 1 (.slice a2 7 c2) 7 mC * (RowO 22 1 (.slice a1 7 c1) 7 kC * A))) w')
    (fun e _ => match e.ρ 4 with | .int _ x => (7 - x).toNat | _ => 0) ?_ ?_
  · exact ⟨by simp -dsimp -implicitDefEqProofs only [go_sem], by simp -dsimp -implicitDefEqProofs only [go_sem], by simp -dsimp -implicitDefEqProofs only [go_sem], by simp -dsimp -implicitDefEqProofs only [go_sem], 0, by omega, by simp -dsimp -implicitDefEqProofs only [go_sem], h3⟩
  clear h h1 h2 h3
  rintro e w ⟨hd, e1, e2, e3, i, hi, e4, h⟩
  by_cases hlt : (i : Int) < 7
  · obtain ⟨g1, o1, rfl, p1⟩ := h.drew.atS (a := a1) (n := 7) (c := c1) (xs := kC) (k := i) (by show i < 7; omega)
    obtain ⟨g2, o2, rfl, p2⟩ := h.drew.atS (a := a2) (n := 7) (c := c2) (xs := mC) (k := i) (by show i < 7; omega)
    rcases (by omega : i = 0 ∨ i = 1 ∨ i = 2 ∨ i = 3 ∨ i = 4 ∨ i = 5 ∨ i = 6) with rfl | rfl | rfl | rfl | rfl | rfl | rfl
    all_goals
      simp only [kC, mC, List.getElem_cons_zero, List.getElem_cons_succ, Nat.add_zero] at p1 p2
      simp only [Int.ofNat_eq_natCast, Int.cast_ofNat_Int] at e4
    all_goals
      simp -dsimp -implicitDefEqProofs (disch := omega) only [go_sem, reqD_of, dec_t, dec_f, wrap_i64, wrap_u32, wrap_u64, wrap_u8, hd, e1, e2, e3, e4, p1, p2]
    · exact ⟨1, by omega, rfl, h.drew⟩
    · exact ⟨2, by omega, rfl, h.drew⟩
    · exact ⟨3, by omega, rfl, h.drew⟩
    · exact ⟨4, by omega, rfl, h.drew⟩
    · exact ⟨5, by omega, rfl, h.drew⟩
    · exact ⟨6, by omega, rfl, h.drew⟩
    · exact ⟨7, by omega, rfl, h.drew⟩
  · simp -dsimp -implicitDefEqProofs (disch := omega) only [go_sem, reqD_of, dec_t, dec_f, wrap_i64, wrap_u32, wrap_u64, wrap_u8, hd, e1, e2, e3, e4, hlt]
    refine loop_intro (fun e w' => e.ds = [] ∧ e.ρ 3 = .slice a3 8 c3 ∧ ∃ i : Nat, i ≤ 8 ∧ e.ρ 5 = .int .i64 i ∧ St w0 (RowO 26 1 (.slice a3 8 c3) 8 eC * A) w')
      (fun e _ => match e.ρ 5 with | .int _ x => (8 - x).toNat | _ => 0) ?_ ?_
    · exact ⟨by simp -dsimp -implicitDefEqProofs only [go_sem, hd], by simp -dsimp -implicitDefEqProofs only [go_sem, e3], 0, by omega, by simp -dsimp -implicitDefEqProofs only [go_sem], h.drop2.drop2⟩
    clear h hlt hd e1 e2 e3 e4 e w
    rintro e w ⟨hd, e3, j, hj, e5, h⟩
    by_cases hlt : (j : Int) < 8
    · obtain ⟨g1, o1, rfl, p1⟩ := h.atS (a := a3) (n := 8) (c := c3) (xs := eC) (k := j) (by show j < 8; omega)
      rcases (by omega : j = 0 ∨ j = 1 ∨ j = 2 ∨ j = 3 ∨ j = 4 ∨ j = 5 ∨ j = 6 ∨ j = 7) with rfl | rfl | rfl | rfl | rfl | rfl | rfl | rfl
      all_goals
        simp only [eC, List.getElem_cons_zero, List.getElem_cons_succ, Nat.add_zero] at p1
        simp only [Int.ofNat_eq_natCast, Int.cast_ofNat_Int] at e5
      all_goals
        simp -dsimp -implicitDefEqProofs (disch := omega) only [go_sem, reqD_of, dec_t, dec_f, wrap_i64, wrap_u32, wrap_u64, wrap_u8, hd, e3, e5, p1]
      · exact ⟨1, by omega, rfl, h⟩
      · exact ⟨2, by omega, rfl, h⟩
      · exact ⟨3, by omega, rfl, h⟩
      · exact ⟨4, by omega, rfl, h⟩
      · exact ⟨5, by omega, rfl, h⟩
      · exact ⟨6, by omega, rfl, h⟩
      · exact ⟨7, by omega, rfl, h⟩
      · exact ⟨8, by omega, rfl, h⟩
    · simp -dsimp -implicitDefEqProofs (disch := omega) only [go_sem, reqD_of, dec_t, dec_f, wrap_i64, wrap_u32, wrap_u64, wrap_u8, hd, e3, e5, hlt]
      refine (works_any h).mono ?_
      rintro e' w2 ⟨h2, rfl⟩
      simp -dsimp -implicitDefEqProofs (disch := omega) only [go_sem, reqD_of, dec_t, dec_f, wrap_i64, wrap_u32, wrap_u64, wrap_u8, hd]
      exact h2.right
end
end
end Go.Proofs.YtijnmokpihhhcaaDoor

namespace Go.Proofs.YtijnmokpihhhcaaDoor
open Go
set_option linter.unusedVariables false
set_option linter.unusedSimpArgs false
set_option maxRecDepth 100000

def pickF (c : Int) (n : Nat) : Nat := ((if c < 0 then -(c + 1) else c) % n).toNat
theorem pickF_lt {c : Int} {n : Nat} (h : 0 < n) : pickF c n < n := by
  have h1 := Int.emod_nonneg (if c < 0 then -(c + 1) else c) (b := (n : Int)) (by omega)
  have h2 := Int.emod_lt_of_pos (if c < 0 then -(c + 1) else c) (b := (n : Int)) (by omega)
  unfold pickF; omega

/-! ### Letters -/

theorem decL_low {b : UInt8} {l : List UInt8} (h : b.toNat < 128) : decL (b :: l) = (b.toNat, 1) := by
  show Lib.decodeN (l.length + 1) b.toNat _ _ _ = _
  unfold Lib.decodeN
  rw [if_pos h]
theorem good_low {b : UInt8} {l : List UInt8} (h : b.toNat < 128) (h0 : b ≠ 0) : good (b :: l) = good l := by
  rw [good_cons (by simp), decL_low h]
  have : (b.toNat == 0) = false := by simpa using fun e => h0 (UInt8.toNat_inj.1 e)
  have h2 : (b.toNat == 65533) = false := by simp; omega
  simp [this, h2]
def lettersF (i : Nat) : List UInt8 := [UInt8.ofNat (97 + i % 26), UInt8.ofNat (97 + i / 26 % 26), UInt8.ofNat (97 + i / 676 % 26)]
theorem letter_nat {k : Nat} (h : k < 26) : (UInt8.ofNat (97 + k)).toNat = 97 + k := by simp; omega
theorem letter_ne {k : Nat} (h : k < 26) {c : UInt8} (hc : c.toNat < 97) : UInt8.ofNat (97 + k) ≠ c := fun e => by
  have := congrArg UInt8.toNat e
  rw [letter_nat h] at this
  omega
theorem letters_ok (i : Nat) : okName (lettersF i) = true := by
  have h1 : i % 26 < 26 := Nat.mod_lt _ (by decide)
  have h2 : i / 26 % 26 < 26 := Nat.mod_lt _ (by decide)
  have h3 : i / 676 % 26 < 26 := Nat.mod_lt _ (by decide)
  have g : good (lettersF i) = true := by
    unfold lettersF
    rw [good_low (by rw [letter_nat h1]; omega) (letter_ne h1 (by decide)), good_low (by rw [letter_nat h2]; omega) (letter_ne h2 (by decide)), good_low (by rw [letter_nat h3]; omega) (letter_ne h3 (by decide))]
    exact good_nil
  have m : (47 : UInt8) ∉ lettersF i := by
    simp only [lettersF, List.mem_cons, List.not_mem_nil, or_false, not_or]
    exact ⟨fun e => letter_ne h1 (by decide) e.symm, fun e => letter_ne h2 (by decide) e.symm, fun e => letter_ne h3 (by decide) e.symm⟩
  unfold okName
  rw [g]
  have d : dots (lettersF i) = false := by simp [dots, lettersF]
  simp [d, m, show (lettersF i).length = 3 from rfl]
theorem letters_inj {i j : Nat} (hi : i < 17576) (hj : j < 17576) (e : lettersF i = lettersF j) : i = j := by
  simp only [lettersF, List.cons.injEq, and_true] at e
  obtain ⟨a, b, c⟩ := e
  have a := congrArg UInt8.toNat a
  have b := congrArg UInt8.toNat b
  have c := congrArg UInt8.toNat c
  rw [letter_nat (Nat.mod_lt _ (by decide)), letter_nat (Nat.mod_lt _ (by decide))] at a b c
  omega

/-! ### The store, by its paths -/

def kidD (x : Nat × Nat) : NodeD := ⟨⟨x.1, 1, lettersF x.2, 384, ann, staff, ann, 0, 0, 0, 0, 0, 0⟩, []⟩
def pathS (nx : Nat) (P : List (Nat × Nat)) : SD := ⟨40, nx, rootD (storeCfg 40) :: P.map kidD⟩
theorem pathS_nil : storeF 40 = pathS 2 [] := rfl
structure PInv (i nx last : Nat) (P : List (Nat × Nat)) : Prop where
  rise : (P.map (·.1)).Pairwise (· < ·)
  lo : ∀ x ∈ P, 2 ≤ x.1 ∧ x.1 < nx
  ix : ∀ x ∈ P, x.2 < i
  few : P.length ≤ 39
  la : last < nx
  n1 : nx ≤ i + 2
  n2 : 2 ≤ nx
theorem PInv.nil : PInv 0 2 1 [] := ⟨by simp, by simp, by simp, by simp, by decide, by decide, by decide⟩

theorem kid_isKid {x : Nat × Nat} (h : 2 ≤ x.1) (p : Nat) : isKid p (kidD x) = (1 == p) := by
  have : (x.1 == 1) = false := by simp; omega
  show (1 == p && !(x.1 == 1)) = _
  simp [this]
theorem root_isKid (p : Nat) : isKid p (rootD (storeCfg 40)) = false := by
  show (1 == p && !(1 == 1)) = _
  simp
theorem path_kids {nx : Nat} {P : List (Nat × Nat)} (h : ∀ x ∈ P, 2 ≤ x.1) (p : Nat) : kidsF (pathS nx P).L p = if p = 1 then P.map (·.1) else [] := by
  unfold kidsF pathS
  rw [List.filter_cons, root_isKid]
  simp only [Bool.false_eq_true, if_false]
  rw [List.filter_map]
  by_cases hp : p = 1
  · subst hp
    rw [if_pos rfl, List.filter_eq_self.2 fun x hx => by show isKid 1 (kidD x) = true; rw [kid_isKid (h x hx)]; rfl, List.map_map]
    rfl
  · rw [if_neg hp, List.filter_eq_nil_iff.2 fun x hx => by show ¬ isKid p (kidD x) = true; rw [kid_isKid (h x hx)]; simpa using fun e => hp e.symm]
    rfl
theorem path_root (nx : Nat) (P : List (Nat × Nat)) : findN (pathS nx P).L 1 = some (rootD (storeCfg 40)) := rfl
theorem path_find {nx : Nat} {P : List (Nat × Nat)} (h : ∀ x ∈ P, 2 ≤ x.1) (hr : (P.map (·.1)).Pairwise (· < ·)) {x : Nat × Nat} (hx : x ∈ P) : findN (pathS nx P).L x.1 = some (kidD x) := by
  have h1 := h x hx
  show List.find? _ (_ :: _) = _
  rw [List.find?_cons]
  have : ((rootD (storeCfg 40)).i.path == x.1) = false := by show ((1 : Nat) == x.1) = false; simp; omega
  rw [this]
  have hr' : (P.map kidD).Pairwise fun a b => a.i.path < b.i.path := by
    rw [rise_paths, List.map_map]; exact hr
  exact find_of hr' (List.mem_map_of_mem hx)

def dropO (p : Nat) : OpD := ⟨2, p, [], 0, infZ, 0, [], 0⟩
theorem dropO_in (p : Nat) : OpIn (dropO p) :=
  ⟨⟨by show (0 : Nat) < _; decide, by show (0 : Nat) < _; decide, by show (0 : Nat) < _; decide⟩, by show (0 : Nat) < _; decide, by show (0 : Nat) < _; decide, by show _ ≤ (0 : Int); decide, by show (0 : Int) ≤ _; decide, by show (0 : Nat) ≤ _; decide, by show (0 : Nat) ≤ _; decide, by show (0 : Nat) ≤ _; decide, by show (0 : Nat) ≤ _; decide, by show (0 : Nat) ≤ _; decide, by show (0 : Nat) ≤ _; decide⟩

theorem path_drop {nx : Nat} {P : List (Nat × Nat)} (h : ∀ x ∈ P, 2 ≤ x.1) (hr : (P.map (·.1)).Pairwise (· < ·)) {k : Nat} (hk : k < P.length) :
    doF (pathS nx P) (dropO P[k].1) = (pathS nx (P.eraseIdx k), P[k].1, 0) := by
  have hx : P[k] ∈ P := List.getElem_mem hk
  have h2 := h _ hx
  unfold doF
  rw [if_neg (by show ¬ (2 < 1 ∨ 7 < 2); decide)]
  have hf : findN (pathS nx P).L (dropO P[k].1).path = some (kidD P[k]) := path_find h hr hx
  rw [hf]
  show (if (2 : Nat) = 1 then _ else if (2 : Nat) = 2 then delF (pathS nx P) (kidD P[k]) else _) = _
  rw [if_neg (by decide), if_pos rfl]
  unfold delF
  have hp : (kidD P[k]).i.path = P[k].1 := rfl
  rw [hp, if_neg (show ¬ P[k].1 = 1 by omega), path_kids h, if_neg (show ¬ P[k].1 = 1 by omega), if_neg (by simp)]
  refine Prod.ext ?_ rfl
  show SD.mk 40 nx (dropN (pathS nx P).L P[k].1) = pathS nx (P.eraseIdx k)
  unfold pathS dropN
  rw [List.filter_cons, if_pos (by show (!((1 : Nat) == P[k].1)) = true; simp; omega), List.filter_map]
  have : P.filter ((fun n => !(n.i.path == P[k].1)) ∘ kidD) = P.eraseIdx k := by
    clear hf h
    induction P generalizing k with
    | nil => simp at hk
    | cons y P ih =>
      rw [List.map_cons, List.pairwise_cons] at hr
      cases k with
      | zero =>
        simp only [List.eraseIdx_zero, List.tail_cons, List.getElem_cons_zero, List.filter_cons, Function.comp]
        rw [if_neg (by simp [kidD]), List.filter_eq_self.2]
        intro x hx
        have := hr.1 x.1 (List.mem_map_of_mem hx)
        simp [kidD]; omega
      | succ k =>
        have hk' : k < P.length := by simpa using hk
        simp only [List.eraseIdx_cons_succ, List.getElem_cons_succ, List.filter_cons]
        have h3 := hr.1 P[k].1 (List.mem_map_of_mem (List.getElem_mem hk'))
        rw [if_pos (by simp [kidD]; omega)]
        simp only [List.getElem_cons_succ] at h2 hx hp
        rw [ih hr.2 hk' (List.getElem_mem hk') h2 rfl]
  rw [this]

theorem path_make {i nx last : Nat} {P : List (Nat × Nat)} (h : PInv i nx last P) (hi : i < 2000) (hl : P.length < 39) :
    doF (pathS nx P) (makF 1 (lettersF i) 384) = (pathS (nx + 1) (P ++ [(nx, i)]), nx, 0) := by
  unfold doF
  rw [if_neg (by show ¬ (1 < 1 ∨ 7 < 1); decide)]
  have hf : findN (pathS nx P).L (makF 1 (lettersF i) 384).path = some (rootD (storeCfg 40)) := path_root nx P
  rw [hf]
  show (if (1 : Nat) = 1 then makeF (pathS nx P) (rootD (storeCfg 40)) (makF 1 (lettersF i) 384).node else _) = _
  rw [if_pos rfl]
  unfold makeF
  have e1 : dirF (rootD (storeCfg 40)).i.mode = true := by decide
  have e2 : modeF (makF 1 (lettersF i) 384).node.mode = true := by show modeF 384 = true; decide
  have e3 : userF (makF 1 (lettersF i) 384).node.uid = true := by show userF ann = true; decide
  have e4 : userF (makF 1 (lettersF i) 384).node.gid = true := by show userF staff = true; decide
  have e5 : userF (makF 1 (lettersF i) 384).node.muid = true := by show userF ann = true; decide
  have e6 : okName (makF 1 (lettersF i) 384).node.name = true := letters_ok i
  have e7 : childF (pathS nx P).L (rootD (storeCfg 40)).i.path (makF 1 (lettersF i) 384).node.name = none := by
    unfold childF
    rw [Option.map_eq_none_iff, List.find?_eq_none]
    intro n hn
    simp only [pathS, List.mem_cons, List.mem_map] at hn
    rcases hn with rfl | ⟨x, hx, rfl⟩
    · rw [root_isKid]; simp
    · have hxi := h.ix x hx
      have : (kidD x).i.name ≠ lettersF i := fun e => by
        have := letters_inj (i := x.2) (j := i) (by omega) (by omega) e
        omega
      show ¬ (_ && (kidD x).i.name == lettersF i) = true
      simp [this]
  have e8 : ¬ (pathS nx P).most ≤ (pathS nx P).L.length := by
    show ¬ 40 ≤ (_ :: P.map kidD).length
    simp; omega
  rw [e1, e2, e3, e4, e5, e6, e7]
  simp only [Bool.not_true, Bool.and_self, Bool.false_eq_true, if_false, Option.isSome_none]
  rw [if_neg e8]
  refine Prod.ext ?_ rfl
  show SD.mk 40 (nx + 1) ((rootD (storeCfg 40) :: P.map kidD) ++ [_]) = SD.mk 40 (nx + 1) (rootD (storeCfg 40) :: (P ++ [(nx, i)]).map kidD)
  rw [List.map_append]
  rfl

theorem PInv.drop {i nx last : Nat} {P : List (Nat × Nat)} (h : PInv i nx last P) {k : Nat} (hk : k < P.length) : PInv (i + 1) nx last (P.eraseIdx k) := by
  have hs : (P.eraseIdx k).Sublist P := List.eraseIdx_sublist ..
  exact ⟨h.rise.sublist (hs.map _), fun x hx => h.lo x (hs.subset hx), fun x hx => by have := h.ix x (hs.subset hx); omega, Nat.le_trans hs.length_le h.few, h.la, by have := h.n1; omega, h.n2⟩
theorem PInv.make {i nx last : Nat} {P : List (Nat × Nat)} (h : PInv i nx last P) (hl : P.length < 39) : PInv (i + 1) (nx + 1) nx (P ++ [(nx, i)]) := by
  refine ⟨?_, fun x hx => ?_, fun x hx => ?_, by simp; omega, by omega, by have := h.n1; omega, by have := h.n2; omega⟩
  · rw [List.map_append, List.pairwise_append]
    refine ⟨h.rise, by simp, fun a ha b hb => ?_⟩
    simp only [List.map_cons, List.map_nil, List.mem_singleton] at hb
    subst hb
    obtain ⟨x, hx, rfl⟩ := List.mem_map.1 ha
    exact (h.lo x hx).2
  · rcases List.mem_append.1 hx with hx | hx
    · have := h.lo x hx; omega
    · simp only [List.mem_singleton] at hx; subst hx; exact ⟨h.n2, by show nx < nx + 1; omega⟩
  · rcases List.mem_append.1 hx with hx | hx
    · have := h.ix x hx; omega
    · simp only [List.mem_singleton] at hx; subst hx; show i < i + 1; omega

/-- The child behind the first so many. -/
theorem rise_find {l : List Nat} (hl : l.Pairwise (· < ·)) {j : Nat} {at_ : Nat} (hj : ∀ k (hk : k < l.length), k < j → l[k] ≤ at_) (hb : ∀ k (hk : k < l.length), j ≤ k → at_ < l[k]) : l.find? (fun k => decide (at_ < k)) = l[j]? := by
  induction l generalizing j with
  | nil => rfl
  | cons y l ih =>
    rw [List.pairwise_cons] at hl
    cases j with
    | zero =>
      have := hb 0 (by simp) (Nat.le_refl _)
      rw [List.find?_cons]
      simp only [List.getElem_cons_zero] at this
      simp [this]
    | succ j =>
      have h0 := hj 0 (by simp) (by omega)
      simp only [List.getElem_cons_zero] at h0
      rw [List.find?_cons]
      have : decide (at_ < y) = false := by simp; omega
      rw [this]
      simp only [List.getElem?_cons_succ]
      refine ih hl.2 (fun k hk hkj => ?_) fun k hk hkj => ?_
      · have := hj (k + 1) (by simpa using hk) (by omega); simpa using this
      · have := hb (k + 1) (by simpa using hk) (by omega); simpa using this
theorem path_after {i nx last : Nat} {P : List (Nat × Nat)} (h : PInv i nx last P) (j : Nat) (hj : j ≤ P.length) :
    afterS (pathS nx P) 1 (if hk : 0 < j then (P[j - 1]'(by omega)).1 else 0) = (P.map (·.1))[j]? := by
  have h2 : ∀ x ∈ P, 2 ≤ x.1 := fun x hx => (h.lo x hx).1
  have hr := h.rise
  unfold afterS
  rw [path_root]
  show afterF (pathS nx P).L 1 _ = _
  unfold afterF
  rw [path_kids h2, if_pos rfl]
  rw [List.pairwise_iff_getElem] at hr
  refine rise_find h.rise (fun k hk hkj => ?_) fun k hk hkj => ?_
  · simp only [List.length_map] at hk
    rw [dif_pos (by omega)]
    rcases Nat.lt_or_ge k (j - 1) with hlt | hge
    · have := hr k (j - 1) (by simpa using hk) (by simp; omega) hlt
      simp only [List.getElem_map] at this ⊢
      omega
    · have : k = j - 1 := by omega
      subst this
      simp
  · simp only [List.length_map] at hk
    by_cases h0 : 0 < j
    · rw [dif_pos h0]
      have := hr (j - 1) k (by simp; omega) (by simpa using hk) (by omega)
      simpa using this
    · rw [dif_neg h0]
      have := h2 P[k] (List.getElem_mem hk)
      simp only [List.getElem_map]
      omega
end Go.Proofs.YtijnmokpihhhcaaDoor

namespace Go.Proofs.YtijnmokpihhhcaaDoor
open Go
set_option linter.unusedVariables false
set_option linter.unusedSimpArgs false
set_option maxRecDepth 100000

def fileD (p : Nat) (nm bs : List UInt8) : NodeD := ⟨⟨p, 1, nm, 384, ann, staff, ann, 0, 0, 0, bs.length, 0, 0⟩, bs⟩
def byteS (a b : List UInt8) : SD := ⟨3, 4, [rootD (storeCfg 3), fileD 2 [97] a, fileD 3 [98] b]⟩
theorem byteS_1 : (doF (storeF 3) (makF 1 [97] 384)).2 = (2, 0) := by decide
theorem byteS_2 : doF (doF (storeF 3) (makF 1 [97] 384)).1 (makF 1 [98] 384) = (byteS [] [], 3, 0) := by rfl
/-- Which of two. -/
def fst2 {α : Type} (k : Nat) (a b : α) : α := if k = 0 then a else b
def bytesO (p off : Nat) (d : List UInt8) : OpD := ⟨6, p, [], 0, infZ, off, d, 0⟩
def cutO (p off : Nat) : OpD := ⟨5, p, [], 0, infZ, off, [], 0⟩
theorem infZ_ok : infZ.mode < 4294967296 ∧ infZ.atime < 4294967296 ∧ infZ.mtime < 4294967296 := by decide
theorem bytesO_in (p : Nat) {off : Nat} {d : List UInt8} (ho : off < 18446744073709551616) (hd : d.length ≤ 4294967296) : OpIn (bytesO p off d) :=
  ⟨⟨infZ_ok.1, infZ_ok.2.1, infZ_ok.2.2⟩, by show (0 : Nat) < _; decide, ho, by show _ ≤ (0 : Int); decide, by show (0 : Int) ≤ _; decide, hd, by show (0 : Nat) ≤ _; decide, by show (0 : Nat) ≤ _; decide, by show (0 : Nat) ≤ _; decide, by show (0 : Nat) ≤ _; decide, by show (0 : Nat) ≤ _; decide⟩
theorem cutO_in (p : Nat) {off : Nat} (ho : off < 18446744073709551616) : OpIn (cutO p off) :=
  ⟨⟨infZ_ok.1, infZ_ok.2.1, infZ_ok.2.2⟩, by show (0 : Nat) < _; decide, ho, by show _ ≤ (0 : Int); decide, by show (0 : Int) ≤ _; decide, by show (0 : Nat) ≤ _; decide, by show (0 : Nat) ≤ _; decide, by show (0 : Nat) ≤ _; decide, by show (0 : Nat) ≤ _; decide, by show (0 : Nat) ≤ _; decide, by show (0 : Nat) ≤ _; decide⟩

theorem do_bytes {a b d : List UInt8} {off k : Nat} (hk : k < 2) (hd : d ≠ []) (h1 : off % 256 + d.length ≤ 256) (h2 : off + d.length ≤ 65536) :
    doF (byteS a b) (bytesO (2 + k) off d) = (byteS (if k = 0 then layF a off d else a) (if k = 0 then b else layF b off d), 2 + k, 0) := by
  have hdir : dirF 384 = false := by decide
  rcases (by omega : k = 0 ∨ k = 1) with rfl | rfl
  · show oneF (byteS a b) 2 (bytesF off d (fileD 2 [97] a)) = _
    have : bytesF off d (fileD 2 [97] a) = .ok (fileD 2 [97] (layF a off d)) := by
      unfold bytesF
      rw [show (fileD 2 [97] a).i.mode = 384 from rfl, hdir]
      rw [if_neg (by simp), if_neg (by simp only [hd, false_or]; omega), if_neg (by omega)]
      unfold fileD
      rw [layF_len]
    rw [this]
    rfl
  · show oneF (byteS a b) 3 (bytesF off d (fileD 3 [98] b)) = _
    have : bytesF off d (fileD 3 [98] b) = .ok (fileD 3 [98] (layF b off d)) := by
      unfold bytesF
      rw [show (fileD 3 [98] b).i.mode = 384 from rfl, hdir]
      rw [if_neg (by simp), if_neg (by simp only [hd, false_or]; omega), if_neg (by omega)]
      unfold fileD
      rw [layF_len]
    rw [this]
    rfl
theorem do_cut {a b : List UInt8} {off k : Nat} (hk : k < 2) (h2 : off ≤ 65536) :
    doF (byteS a b) (cutO (2 + k) off) = (byteS (if k = 0 then padF a off else a) (if k = 0 then b else padF b off), 2 + k, 0) := by
  have hdir : dirF 384 = false := by decide
  rcases (by omega : k = 0 ∨ k = 1) with rfl | rfl
  · show oneF (byteS a b) 2 (cutF off (fileD 2 [97] a)) = _
    have : cutF off (fileD 2 [97] a) = .ok (fileD 2 [97] (padF a off)) := by
      unfold cutF
      rw [show (fileD 2 [97] a).i.mode = 384 from rfl, hdir]
      rw [if_neg (by simp), if_neg (by omega)]
      unfold fileD
      rw [padF_len]
    rw [this]
    rfl
  · show oneF (byteS a b) 3 (cutF off (fileD 3 [98] b)) = _
    have : cutF off (fileD 3 [98] b) = .ok (fileD 3 [98] (padF b off)) := by
      unfold cutF
      rw [show (fileD 3 [98] b).i.mode = 384 from rfl, hdir]
      rw [if_neg (by simp), if_neg (by omega)]
      unfold fileD
      rw [padF_len]
    rw [this]
    rfl
theorem byte_read {a b : List UInt8} {k off : Nat} (hk : k < 2) {n : Int} (hn : 0 < n) : readS (byteS a b) (2 + k) off n = ((fst2 k a b).drop off).take n.toNat := by
  rcases (by omega : k = 0 ∨ k = 1) with rfl | rfl
  · show readF (fileD 2 [97] a) off n = _
    unfold readF
    rw [if_neg (by omega)]
    rfl
  · show readF (fileD 3 [98] b) off n = _
    unfold readF
    rw [if_neg (by omega)]
    rfl
theorem byte_node {a b : List UInt8} {k : Nat} (hk : k < 2) : (findN (byteS a b).L (2 + k)).isSome = true ∧ (toldI (byteS a b) (2 + k)).length = (fst2 k a b).length := by
  rcases (by omega : k = 0 ∨ k = 1) with rfl | rfl <;> exact ⟨rfl, rfl⟩

/-! ### What is known of a file: 65536 bytes -/

def knowF (bs : List UInt8) : List UInt8 := bs ++ List.replicate (65536 - bs.length) 0
theorem know_len {bs : List UInt8} (h : bs.length ≤ 65536) : (knowF bs).length = 65536 := by simp [knowF]; omega
theorem know_nil : knowF [] = List.replicate 65536 0 := rfl
theorem know_get (bs : List UInt8) (j : Nat) : (knowF bs).getD j 0 = bs.getD j 0 := by
  unfold knowF
  simp only [List.getD_eq_getElem?_getD, List.getElem?_append]
  split
  · rfl
  · rename_i h
    rw [List.getElem?_replicate, List.getElem?_eq_none (by omega)]
    split <;> rfl
theorem know_ext {x : List UInt8} {bs : List UInt8} (hx : x.length = 65536) (hb : bs.length ≤ 65536) (h : ∀ j, j < 65536 → x.getD j 0 = bs.getD j 0) : x = knowF bs := by
  refine List.ext_getElem (by rw [hx, know_len hb]) fun j h1 h2 => ?_
  have := h j (by omega)
  rw [← know_get bs] at this
  simpa [List.getD_eq_getElem?_getD, h1, h2] using this
/-- Written. -/
theorem know_lay {bs d : List UInt8} {off : Nat} (hb : bs.length ≤ 65536) (h2 : off + d.length ≤ 65536) :
    (knowF bs).take off ++ d ++ (knowF bs).drop (off + d.length) = knowF (layF bs off d) := by
  have hl := know_len hb
  refine know_ext (by simp [hl]; omega) (by rw [layF_len]; omega) fun j hj => ?_
  rw [layF_get, ← know_get bs j]
  simp only [List.getD_eq_getElem?_getD, List.append_assoc, List.getElem?_append, List.length_take, hl, List.getElem?_take, List.getElem?_drop]
  by_cases h : off ≤ j ∧ j < off + d.length
  · rw [if_pos h, if_neg (by omega), show min off 65536 = off by omega, if_pos (by omega)]
  · rw [if_neg h]
    by_cases hj1 : j < off
    · rw [if_pos (by omega), if_pos hj1]
    · rw [if_neg (by omega), show min off 65536 = off by omega, if_neg (by omega)]
      congr 2; omega
/-- Cut. -/
theorem know_cut {bs : List UInt8} {off : Nat} (hb : bs.length ≤ 65536) (h2 : off ≤ 65536) :
    (knowF bs).take off ++ (List.replicate (bs.length - off) 0 ++ (knowF bs).drop (off + (bs.length - off))) = knowF (padF bs off) := by
  have hl := know_len hb
  refine know_ext (by simp [hl]; omega) (by rw [padF_len]; omega) fun j hj => ?_
  rw [padF_get]
  have hk := know_get bs j
  simp only [List.getD_eq_getElem?_getD, List.getElem?_append, List.length_take, hl, List.getElem?_take, List.length_replicate, List.getElem?_drop] at hk ⊢
  by_cases h : j < off
  · rw [if_pos (by omega), if_pos h, if_pos h, hk]
  · rw [if_neg (by omega), if_neg h, show min off 65536 = off by omega]
    by_cases h3 : j - off < bs.length - off
    · rw [if_pos h3, List.getElem?_replicate, if_pos h3]; rfl
    · rw [if_neg h3, show off + (bs.length - off) + (j - off - (bs.length - off)) = j by omega, hk, List.getElem?_eq_none (by omega)]
      rfl
theorem know_read {bs : List UInt8} {off n : Nat} (hb : bs.length ≤ 65536) (ho : off ≤ 65536) :
    ((knowF bs).drop off).take (max off (min (off + n) bs.length) - off) = (bs.drop off).take n := by
  unfold knowF
  refine List.ext_getElem? fun j => ?_
  simp only [List.getElem?_take, List.getElem?_drop, List.getElem?_append]
  by_cases h : off + j < bs.length
  · by_cases hn : j < n
    · rw [if_pos (by omega), if_pos hn, if_pos h]
    · rw [if_neg (by omega), if_neg hn]
  · rw [if_neg (by omega), List.getElem?_eq_none (by omega)]
    split <;> rfl
end Go.Proofs.YtijnmokpihhhcaaDoor

namespace Go.Proofs.YtijnmokpihhhcaaDoor
open Go
set_option linter.unusedVariables false
set_option linter.unusedSimpArgs false
set_option maxRecDepth 100000

section
variable {w0 w : World} {A : HP}
section
attribute [local go_sem] F22.t3_eq
theorem pick_any (h : St w0 A w) {c : Int} {n : Nat} (hc : -9223372036854775808 ≤ c ∧ c ≤ 9223372036854775807) (hn : 0 < n ∧ n ≤ 1000000) :
    Calls Tryd.prog 22 #[.int .i64 c, .int .i64 n] w fun e w' => St w0 A w' ∧ e = .returned (.int .i64 (pickF c n)) := by
  refine F22.calls (by simp) ?_
  unfold F22.code
  by_cases h0 : c < 0
  · have hp : ((pickF c n : Nat) : Int) = -(c + 1) % n := by
      have := Int.emod_nonneg (-(c + 1)) (b := (n : Int)) (by omega)
      unfold pickF; rw [if_pos h0]; omega
    simp -dsimp -implicitDefEqProofs (disch := omega) only [go_sem, reqD_of, dec_t, dec_f, wrap_i64, wrap_u32, wrap_u64, wrap_u8, h0, hp]
    exact ⟨h, by rw [Int.tmod_eq_emod_of_nonneg (by omega), Int.zero_sub]⟩
  · have hp : ((pickF c n : Nat) : Int) = c % n := by
      have := Int.emod_nonneg c (b := (n : Int)) (by omega)
      unfold pickF; rw [if_neg h0]; omega
    simp -dsimp -implicitDefEqProofs (disch := omega) only [go_sem, reqD_of, dec_t, dec_f, wrap_i64, wrap_u32, wrap_u64, wrap_u8, h0, hp]
    exact ⟨h, by rw [Int.tmod_eq_emod_of_nonneg (by omega)]⟩

abbrev i64V : Int → Value := fun z => .int .i64 z
abbrev rowTy_by : rowTy Tryd.prog 51 = some (5, 1, 1, [.int .u8 0]) := by kernel_rfl
/-- What NodesPaths owns on the way. -/
abbrev PathsW (b : Nat) (vl : Value) (l : List Nat) (nx : Nat) (P : List (Nat × Nat)) (A : HP) : HP := StoreP b 0 0 (pathS nx P) * (RowU vl l * A)
abbrev NilB (A : HP) : HP := RowO 5 1 (.slice none 0 0) 0 [] * A
theorem NilB.gives (A : HP) {bs : List UInt8} (h : bs = []) : Gives (NilB A) (RdB (.slice none 0 0) bs) := by subst h; exact ⟨(Ent.left _ _).trans (RowO.reads _ _ _ _ _)⟩

/-- The first part of the list that lives, in a list of its own. -/
theorem drop_head {b gl ol cl nx k : Nat} {l : List Nat} {P : List (Nat × Nat)} (hk : k < l.length) (hc : l.length ≤ cl ∧ cl ≤ maxLen) (hl : l.length ≤ 1000000) (h : St w0 (PathsW b (.slice (some ⟨gl, ol, none⟩) l.length cl) l nx P (NilB A)) w) {K : Value → World → Prop} {θ : Tag K}
    (hK : ∀ v w', St w0 (RowO 30 1 v k ((l.take k).map u64V) * PathsW b (.slice (some ⟨gl, ol, none⟩) l.length cl) l nx P (NilB A)) w' → K v w') :
    semD Tryd.prog (kAppend #[63, 63] 63 #[.slice none 0 0, .slice (if cl = 0 then some ⟨gl, ol, none⟩ else some ⟨gl, ol, none⟩) k cl]) w K θ := by
  have r1 := ((h.right.left.ent (RowO.reads _ _ _ _ _)).ent (Reads.sub (lo := 0) (k := k) (by omega)))
  simp only [Nat.mul_one, Nat.zero_mul, Option.map_some, add_lit, Nat.add_zero, Nat.sub_zero, List.drop_zero, ← List.map_take] at r1
  refine (h.nilR 30 1).appendO rowTy_u64 (r1.rd.src Tryd.underlying63 (u64_cells _) (fun hh => ?_)) (by simp [maxLen]; omega) (by omega) fun v3 w3 h3 => ?_
  · have := congrArg List.length hh
    simp only [List.length_map, List.length_take, List.length_nil] at this
    omega
  rw [Nat.zero_add, List.nil_append] at h3
  exact hK _ _ h3
/-- And the rest behind it. -/
theorem drop_rest {b gl ol cl nx k : Nat} {v : Value} {l : List Nat} {P : List (Nat × Nat)} (hk : k < l.length) (hc : l.length ≤ cl ∧ cl ≤ maxLen) (hl : l.length ≤ 1000000) (h : St w0 (RowO 30 1 v k ((l.take k).map u64V) * PathsW b (.slice (some ⟨gl, ol, none⟩) l.length cl) l nx P (NilB A)) w) {K : Value → World → Prop} {θ : Tag K}
    (hK : ∀ v w', St w0 (PathsW b v (l.eraseIdx k) nx P (NilB A)) w' → K v w') :
    semD Tryd.prog (kAppend #[63, 63] 63 #[v, .slice (if cl = ((k : Int) + 1).toNat then some ⟨gl, ol, none⟩ else some ⟨gl, ol + ((k : Int) + 1).toNat, none⟩) (l.length - ((k : Int) + 1).toNat) (cl - ((k : Int) + 1).toNat)]) w K θ := by
  have e1 : ((k : Int) + 1).toNat = k + 1 := by omega
  rw [e1]
  have r1 := ((h.right.right.left.ent (RowO.reads _ _ _ _ _)).ent (Reads.sub (lo := k + 1) (k := l.length - (k + 1)) (by omega)))
  rw [Nat.mul_one, Nat.mul_one, ← List.map_drop, ← List.map_take, List.take_of_length_le (by simp)] at r1
  simp only [Option.map_some, add_lit] at r1
  refine h.appendO rowTy_u64 (r1.rd.src Tryd.underlying63 (u64_cells _) (fun hh => ?_)) (by simp [maxLen]; omega) (by omega) fun v3 w3 h3 => ?_
  · have := congrArg List.length hh
    simp only [List.length_map, List.length_drop, List.length_nil] at this
    omega
  have hn : k + (l.length - (k + 1)) = (l.eraseIdx k).length := by rw [List.length_eraseIdx, if_pos hk]; omega
  rw [← List.map_append, ← List.eraseIdx_eq_take_drop_succ, hn] at h3
  exact hK _ _ (h3.sw2.ent (Ent.sep (Ent.rfl' _) (Ent.sep (Ent.rfl' _) (Ent.right _ _))))
theorem letter_w {k : Nat} (h : k < 26) : IntKind.u8.wrap (IntKind.i64.wrap (97 + (k : Int))) = (((UInt8.ofNat (97 + k)).toNat : Nat) : Int) := by
  rw [letter_nat h, wrap_i64 (by omega) (by omega), wrap_u8 (by omega) (by omega)]
  omega
theorem letter_0 (i : Nat) : IntKind.u8.wrap (IntKind.i64.wrap (97 + (i : Int).tmod 26)) = (((UInt8.ofNat (97 + i % 26)).toNat : Nat) : Int) := by
  rw [← letter_w (Nat.mod_lt _ (by decide)), show (i : Int).tmod 26 = ((i % 26 : Nat) : Int) from (Int.ofNat_tmod i 26).symm]
theorem letter_q {q : Nat} (hq : q < 9223372036854775808) : IntKind.u8.wrap (IntKind.i64.wrap (97 + (IntKind.i64.wrap (q : Int)).tmod 26)) = (((UInt8.ofNat (97 + q % 26)).toNat : Nat) : Int) := by
  have h1 : IntKind.i64.wrap (q : Int) = (q : Int) := wrap_i64 (by omega) (by omega)
  rw [← letter_w (Nat.mod_lt _ (by decide)), h1, show (q : Int).tmod 26 = ((q % 26 : Nat) : Int) from (Int.ofNat_tmod q 26).symm]
theorem letter_d {i d : Nat} (hi : i < 9223372036854775808) : IntKind.u8.wrap (IntKind.i64.wrap (97 + (IntKind.i64.wrap ((i : Int).tdiv d)).tmod 26)) = (((UInt8.ofNat (97 + i / d % 26)).toNat : Nat) : Int) := by
  have : i / d ≤ i := Nat.div_le_self _ _
  rw [show (i : Int).tdiv d = ((i / d : Nat) : Int) from (Int.ofNat_tdiv i d).symm]
  exact letter_q (Nat.lt_of_le_of_lt this hi)

def atF (l : List Nat) (j : Nat) : Nat := if j = 0 then 0 else l.getD (j - 1) 0
theorem at_after {i nx last : Nat} {P : List (Nat × Nat)} (h : PInv i nx last P) {l : List Nat} (hl : l = P.map (·.1)) {j : Nat} (hj : j ≤ l.length) : afterS (pathS nx P) 1 (atF l j) = l[j]? := by
  subst hl
  rw [List.length_map] at hj
  rw [← path_after h j hj]
  congr 1
  unfold atF
  by_cases h0 : 0 < j
  · rw [if_neg (by omega), dif_pos h0]
    have : j - 1 < P.length := by omega
    simp [List.getD_eq_getElem?_getD, this]
  · rw [if_pos (by omega), dif_neg h0]

end
section
attribute [local go_sem] F6.t17_eq F6.t26_eq F6.t21_eq F6.t11_eq F6.t12_eq F6.t35_eq F6.t31_eq F6.t32_eq F6.t36_eq F6.t28_eq F6.t7_eq F6.t4_eq
theorem paths_any [Gives A Tabs] {ds : List Int} {a : Option Addr} {c : Nat} [Gives A (Reads 1 (.slice a ds.length c) ds.length (ds.map i64V))] (hds : ∀ z ∈ ds, -9223372036854775808 ≤ z ∧ z ≤ 9223372036854775807) (hlen : ds.length ≤ 4611686018427387904) (h : St w0 A w) :
    Calls Tryd.prog 6 #[.slice a ds.length c] w fun e w' => St w0 A w' ∧ e = .returned (.bool true) := by
  refine F6.calls (by simp) ?_
  unfold F6.code
  simp -dsimp -implicitDefEqProofs (disch := omega) only [go_sem, reqD_of, dec_t, dec_f, wrap_i64, wrap_u32, wrap_u64, wrap_u8]
  refine (works_any h).mono ?_
  rintro e w1 ⟨h1, rfl⟩
  by_cases hbig : (8388608 : Int) < ds.length
  · simp -dsimp -implicitDefEqProofs (disch := omega) only [go_sem, reqD_of, dec_t, dec_f, wrap_i64, wrap_u32, wrap_u64, wrap_u8, hbig]
    exact h1
  simp -dsimp -implicitDefEqProofs (disch := omega) only [go_sem, reqD_of, dec_t, dec_f, wrap_i64, wrap_u32, wrap_u64, wrap_u8, hbig]
  have hN : St w0 (NilB A) w1 := h1.nilR 5 1
  refine (store_any (n := 40) (by decide) hN).mono ?_
  rintro e w2 ⟨b, h2, rfl⟩
  rw [pathS_nil] at h2
  have h2 : St w0 (StoreP b 0 0 (pathS 2 []) * (RowU (.slice none 0 0) [] * NilB A)) w2 := (h2.nilR 30 1).sw2
  simp -dsimp -implicitDefEqProofs (disch := omega) only [go_sem, reqD_of, dec_t, dec_f, wrap_i64, wrap_u32, wrap_u64, wrap_u8]
  refine loop_intro (fun e w' => e.ds = [] ∧ e.ρ 0 = .slice a ds.length c ∧ e.ρ 3 = .bool true ∧ e.ρ 4 = .pointer (some ⟨b, 0, none⟩) ∧ ∃ (i nx last : Nat) (P : List (Nat × Nat)) (l : List Nat) (vl : Value), i ≤ ds.length ∧ i ≤ 2000 ∧ l = P.map (·.1) ∧ e.ρ 7 = .int .i64 i ∧ e.ρ 6 = .int .u64 last ∧ e.ρ 5 = vl ∧ PInv i nx last P ∧ St w0 (PathsW b vl l nx P (NilB A)) w')
    (fun e _ => match e.ρ 7 with | .int _ x => (2000 - x).toNat | _ => 0) ?_ ?_
  · exact ⟨by simp -dsimp -implicitDefEqProofs only [go_sem], by simp -dsimp -implicitDefEqProofs only [go_sem], by simp -dsimp -implicitDefEqProofs only [go_sem], by simp -dsimp -implicitDefEqProofs only [go_sem], 0, 2, 1, [], [], _, by omega, by omega, rfl, by simp -dsimp -implicitDefEqProofs only [go_sem], by simp -dsimp -implicitDefEqProofs only [go_sem], by simp -dsimp -implicitDefEqProofs only [go_sem], PInv.nil, h2⟩
  clear h h1 hN h2
  rintro e w ⟨hd, e0, e3, e4, i, nx, last, P, l, vl, hi, hi2, hl, e7, e6, e5, inv, h⟩
  have hll : l.length = P.length := by rw [hl]; simp
  have hfew := inv.few
  obtain ⟨al, cl, rfl, _, hcl2⟩ := h.sw2.rowForm vl
  by_cases hgo : (i : Int) < ds.length ∧ (i : Int) < 2000
  case neg =>
    rcases (by omega : ¬ (i : Int) < ds.length ∨ ((i : Int) < ds.length ∧ ¬ (i : Int) < 2000)) with hlt | ⟨hlt, hlt2⟩
    case' inl => (simp -dsimp -implicitDefEqProofs (disch := omega) only [go_sem, reqD_of, dec_t, dec_f, wrap_i64, wrap_u32, wrap_u64, wrap_u8, hd, e0, e3, e4, e5, e6, e7, hlt])
    case' inr => (simp -dsimp -implicitDefEqProofs (disch := omega) only [go_sem, reqD_of, dec_t, dec_f, wrap_i64, wrap_u32, wrap_u64, wrap_u8, hd, e0, e3, e4, e5, e6, e7, hlt, hlt2])
    all_goals
      refine loop_intro (fun e w' => e.ds = [] ∧ e.ρ 3 = .bool true ∧ e.ρ 4 = .pointer (some ⟨b, 0, none⟩) ∧ e.ρ 5 = .slice al l.length cl ∧ ∃ j : Nat, j ≤ l.length ∧ e.ρ 17 = .int .i64 j ∧ e.ρ 16 = .int .u64 (atF l j) ∧ St w0 (PathsW b (.slice al l.length cl) l nx P (NilB A)) w')
        (fun e _ => match e.ρ 17 with | .int _ x => (l.length - x).toNat | _ => 0) ?_ ?_
      · exact ⟨by simp -dsimp -implicitDefEqProofs only [go_sem, hd], by simp -dsimp -implicitDefEqProofs only [go_sem, e3], by simp -dsimp -implicitDefEqProofs only [go_sem, e4], by simp -dsimp -implicitDefEqProofs only [go_sem, e5], 0, by omega, by simp -dsimp -implicitDefEqProofs only [go_sem], by simp -dsimp -implicitDefEqProofs only [go_sem]; rfl, h⟩
      clear h hd e0 e3 e4 e5 e6 e7 e w hgo
      rintro e w ⟨hd, e3, e4, e5, j, hj, e17, e16, h⟩
      have ha := at_after inv hl hj
      by_cases hjl : (j : Int) < l.length
      · have hj' : j < l.length := by omega
        rw [List.getElem?_eq_getElem hj'] at ha
        simp -dsimp -implicitDefEqProofs (disch := omega) only [go_sem, reqD_of, dec_t, dec_f, wrap_i64, wrap_u32, wrap_u64, wrap_u8, hd, e3, e4, e5, e17, e16, hjl]
        refine (after_any (p := 1) (last := atF l j) h).mono ?_
        rintro e' w1 ⟨h1, rfl⟩
        obtain ⟨g2, o2, rfl, pl⟩ := h1.sw2.atS (a := al) (n := l.length) (c := cl) (xs := l.map u64V) (k := j) (by simpa using hj')
        rw [List.getElem_map] at pl
        rw [ha, aftV]
        simp -dsimp -implicitDefEqProofs (disch := omega) only [go_sem, reqD_of, dec_t, dec_f, wrap_i64, wrap_u32, wrap_u64, wrap_u8, hd, e3, e4, e5, e17, e16, pl]
        refine ⟨⟨j + 1, by omega, by omega, ?_, h1⟩, by omega⟩
        unfold atF
        rw [if_neg (by omega)]
        simp [List.getD_eq_getElem?_getD, hj']
      · have hjn : l[j]? = none := List.getElem?_eq_none (by omega)
        rw [hjn] at ha
        simp -dsimp -implicitDefEqProofs (disch := omega) only [go_sem, reqD_of, dec_t, dec_f, wrap_i64, wrap_u32, wrap_u64, wrap_u8, hd, e3, e4, e5, e17, e16, hjl]
        refine (after_any (p := 1) (last := atF l j) h).mono ?_
        rintro e' w1 ⟨h1, rfl⟩
        rw [ha, aftV]
        simp -dsimp -implicitDefEqProofs (disch := omega) only [go_sem, reqD_of, dec_t, dec_f, wrap_i64, wrap_u32, wrap_u64, wrap_u8, hd, e3, e4, e5, e17, e16]
        exact h1.right.right.right
  obtain ⟨hlt, hlt2⟩ := hgo
  obtain ⟨g, o, rfl, hp⟩ := h.atS (a := a) (n := ds.length) (c := c) (xs := ds.map i64V) (k := i) (by simp; omega)
  rw [List.getElem_map] at hp
  have hz := hds _ (List.getElem_mem (show i < ds.length by omega))
  obtain ⟨z, hzz⟩ : ∃ z, z = ds[i] := ⟨_, rfl⟩
  rw [← hzz] at hp hz
  by_cases hdrop : (0 ≤ z ∧ 0 < l.length) ∨ l.length = 39
  · have hl0 : 0 < l.length := by omega
    obtain ⟨gl, ol, rfl, _⟩ := h.sw2.drew.atS (a := al) (n := l.length) (c := cl) (xs := l.map u64V) (k := 0) (by simpa using hl0)
    have hk := pickF_lt (c := z) hl0
    obtain ⟨k, hkk⟩ : ∃ k, k = pickF z l.length := ⟨_, rfl⟩
    rw [← hkk] at hk
    obtain ⟨q, hq⟩ : ∃ q, q = l[k] := ⟨_, rfl⟩
    have hkP : k < P.length := by omega
    have hqP : q = P[k].1 := by subst hl; rw [hq]; simp
    have hlo : ∀ x ∈ P, 2 ≤ x.1 := fun x hx => (inv.lo x hx).1
    have hdo := path_drop (nx := nx) hlo inv.rise hkP
    rw [← hqP] at hdo
    have hq2 : 2 ≤ q := by rw [hqP]; exact hlo _ (List.getElem_mem hkP)
    haveI g1 : Gives (RowU (.slice (some ⟨gl, ol, none⟩) l.length cl) l * NilB A) (RdB (.slice none 0 0) (dropO q).data) := ⟨(Ent.right _ _).trans (NilB.gives A rfl).ent⟩
    rcases (by omega : 0 ≤ z ∨ (¬ 0 ≤ z ∧ (l.length : Int) = 39)) with hz0 | ⟨hz0, hl39⟩
    case' inl => (simp -dsimp -implicitDefEqProofs (disch := omega) only [go_sem, reqD_of, dec_t, dec_f, wrap_i64, wrap_u32, wrap_u64, wrap_u8, hd, e0, e3, e4, e5, e6, e7, hlt, hlt2, hp, hz0])
    case' inr => (simp -dsimp -implicitDefEqProofs (disch := omega) only [go_sem, reqD_of, dec_t, dec_f, wrap_i64, wrap_u32, wrap_u64, wrap_u8, hd, e0, e3, e4, e5, e6, e7, hlt, hlt2, hp, hz0, hl39]; rw [← hl39])
    all_goals
      refine (pick_any h ⟨hz.1, hz.2⟩ ⟨hl0, by omega⟩).mono ?_
      rintro e' w1 ⟨h1, rfl⟩
      rw [← hkk]
      obtain ⟨_, _, hs, pl⟩ := h1.sw2.atS (a := some ⟨gl, ol, none⟩) (n := l.length) (c := cl) (xs := l.map u64V) (k := k) (by simpa using hk)
      simp only [Option.some.injEq, Addr.mk.injEq, and_true] at hs
      obtain ⟨rfl, rfl⟩ := hs
      rw [List.getElem_map, ← hq] at pl
      simp -dsimp -implicitDefEqProofs (disch := omega) only [go_sem, reqD_of, dec_t, dec_f, wrap_i64, wrap_u32, wrap_u64, wrap_u8, hd, e0, e3, e4, e5, e6, e7, pl]
      refine onV_of (v := .agg (opL (dropO q) (.slice none 0 0)).toArray) (by rfl) ?_
      simp -dsimp -implicitDefEqProofs (disch := omega) only [go_sem, reqD_of, dec_t, dec_f, wrap_i64, wrap_u32, wrap_u64, wrap_u8, hd, e0, e3, e4, e5, e6, e7, pl]
      refine (do_any (o := dropO q) (vd := .slice none 0 0) (dropO_in q) (by show 2 < 256; decide) (by show nx < _; have := inv.n1; omega) h1).mono ?_
      rintro e' w2 ⟨h2, rfl⟩
      rw [hdo] at h2 ⊢
      have h2 : St w0 (PathsW b (.slice (some ⟨gl, ol, none⟩) l.length cl) l nx (P.eraseIdx k) (NilB A)) w2 := h2
      simp -dsimp -implicitDefEqProofs (disch := omega) only [go_sem, reqD_of, dec_t, dec_f, wrap_i64, wrap_u32, wrap_u64, wrap_u8, hd, e0, e3, e4, e5, e6, e7]
      refine drop_head hk hcl2 (by omega) h2 fun v3 w3 h3 => ?_
      simp -dsimp -implicitDefEqProofs (disch := omega) only [go_sem, reqD_of, dec_t, dec_f, wrap_i64, wrap_u32, wrap_u64, wrap_u8, hd, e0, e3, e4, e5, e6, e7]
      refine drop_rest hk hcl2 (by omega) h3 fun v4 w4 h4 => ?_
      simp -dsimp -implicitDefEqProofs (disch := omega) only [go_sem, reqD_of, dec_t, dec_f, wrap_i64, wrap_u32, wrap_u64, wrap_u8, hd, e0, e3, e4, e5, e6, e7]
      refine ⟨⟨i + 1, nx, last, P.eraseIdx k, l.eraseIdx k, v4, by omega, by omega, ?_, by omega, rfl, rfl, inv.drop hkP, h4⟩, by omega⟩
      subst hl
      rw [List.eraseIdx_eq_take_drop_succ, List.eraseIdx_eq_take_drop_succ, List.map_append, List.map_take, List.map_drop]
  · have hn39 : ¬ (l.length : Int) = 39 := by omega
    have c0 := letter_0 i
    have c1 := letter_d (i := i) (d := 26) (by omega)
    have c2 := letter_d (i := i) (d := 676) (by omega)
    simp only [Int.cast_ofNat_Int] at c1 c2
    have hmk := path_make inv (by omega) (by omega)
    haveI g1 : Gives (RowU (.slice al l.length cl) l * NilB A) (RdB (.slice none 0 0) (makF 1 (lettersF i) 384).data) := ⟨(Ent.right _ _).trans (NilB.gives A rfl).ent⟩
    rcases (by omega : (0 ≤ z ∧ ¬ (0 : Int) < l.length) ∨ ¬ 0 ≤ z) with ⟨hz0, hn0⟩ | hz0
    case' inl => (simp -dsimp -implicitDefEqProofs (disch := omega) only [go_sem, reqD_of, dec_t, dec_f, wrap_i64, wrap_u32, wrap_u64, wrap_u8, hd, e0, e3, e4, e5, e6, e7, hlt, hlt2, hp, hz0, hn0, hn39])
    case' inr => (simp -dsimp -implicitDefEqProofs (disch := omega) only [go_sem, reqD_of, dec_t, dec_f, wrap_i64, wrap_u32, wrap_u64, wrap_u8, hd, e0, e3, e4, e5, e6, e7, hlt, hlt2, hp, hz0, hn39])
    all_goals
      refine (next_any h).mono ?_
      rintro e' w1 ⟨h1, rfl⟩
      simp -dsimp -implicitDefEqProofs (disch := omega) only [go_sem, reqD_of, dec_t, dec_f, wrap_i64, wrap_u32, wrap_u64, wrap_u8, hd, e0, e3, e4, e5, e6, e7]
      rw [c0, c1, c2]
      refine h1.lit (t := 51) (n := 3) (cells := (lettersF i).map bv) rowTy_bytes rfl (by decide) (by decide) fun v2 w2 h2 => ?_
      have h2 : St w0 (RowO 5 1 v2 (lettersF i).length ((lettersF i).map bv) * (StoreP b 0 0 (pathS nx P) * (RowU (.slice al l.length cl) l * NilB A))) w2 := h2
      simp -dsimp -implicitDefEqProofs (disch := omega) only [go_sem, reqD_of, dec_t, dec_f, wrap_i64, wrap_u32, wrap_u64, wrap_u8, hd, e0, e3, e4, e5, e6, e7]
      refine St.str (bs := lettersF i) h2 ((Ent.left _ _).trans (RowO.reads _ _ _ _ _)) Tryd.underlying51 Tryd.underlying5 Tryd.underlying9 ?_
      simp -dsimp -implicitDefEqProofs (disch := omega) only [go_sem, reqD_of, dec_t, dec_f, wrap_i64, wrap_u32, wrap_u64, wrap_u8, hd, e0, e3, e4, e5, e6, e7]
      refine (mak_any (p := 1) (nm := lettersF i) (m := 384) h2.right).mono ?_
      rintro e' w3 ⟨h3, rfl⟩
      simp -dsimp -implicitDefEqProofs (disch := omega) only [go_sem, reqD_of, dec_t, dec_f, wrap_i64, wrap_u32, wrap_u64, wrap_u8, hd, e0, e3, e4, e5, e6, e7]
      refine (do_any (o := makF 1 (lettersF i) 384) (vd := .slice none 0 0) (mak_in (by decide) (by show 3 ≤ _; decide)) (by show 1 < 256; decide) (by show nx < _; have := inv.n1; omega) h3).mono ?_
      rintro e' w4 ⟨h4, rfl⟩
      rw [hmk] at h4 ⊢
      have hla := inv.la
      have hn1 := inv.n1
      have hnx : (pathS nx P).next = nx := rfl
      simp -dsimp -implicitDefEqProofs (disch := omega) only [go_sem, reqD_of, dec_t, dec_f, wrap_i64, wrap_u32, wrap_u64, wrap_u8, hd, e0, e3, e4, e5, e6, e7, hnx]
      have h4 : St w0 (PathsW b (.slice al l.length cl) l (nx + 1) (P ++ [(nx, i)]) (NilB A)) w4 := h4
      refine h4.lit (t := 63) (n := 1) (cells := [u64V nx]) rowTy_u64 rfl (by decide) (by decide) fun v5 w5 h5 => ?_
      simp -dsimp -implicitDefEqProofs (disch := omega) only [go_sem, reqD_of, dec_t, dec_f, wrap_i64, wrap_u32, wrap_u64, wrap_u8, hd, e0, e3, e4, e5, e6, e7]
      refine h5.appR (v := .slice al l.length cl) (x := v5) rowTy_u64 Tryd.underlying63 (fun u hu => by simp at hu; subst hu; rfl) (by simp) (show _ ≤ 9223372036854775807 by omega) (by omega) fun v6 w6 h6 => ?_
      simp -dsimp -implicitDefEqProofs (disch := omega) only [go_sem, reqD_of, dec_t, dec_f, wrap_i64, wrap_u32, wrap_u64, wrap_u8, hd, e0, e3, e4, e5, e6, e7]
      have h7 : St w0 (PathsW b v6 (l ++ [nx]) (nx + 1) (P ++ [(nx, i)]) (NilB A)) w6 := by
        have h6 := h6.right
        show St w0 (_ * (RowO _ 1 v6 (l ++ [nx]).length ((l ++ [nx]).map u64V) * _)) w6
        rw [List.length_append, List.map_append]
        exact h6
      refine ⟨⟨i + 1, nx + 1, nx, P ++ [(nx, i)], l ++ [nx], v6, by omega, by omega, ?_, by omega, rfl, rfl, inv.make (by omega), h7⟩, by omega⟩
      subst hl
      simp
end
end
end Go.Proofs.YtijnmokpihhhcaaDoor

namespace Go.Proofs.YtijnmokpihhhcaaDoor
open Go
set_option linter.unusedVariables false

theorem rSlice_choose {α β : Type} {s b : Nat} {R : Rdr α} {enc : β → List Value} {p : β → Heap → Prop} (he : ∀ x cs h, R.rel x cs h → ∃ y, cs = enc y ∧ p y h) (hk : ∀ y, (enc y).length = s) {xs : List α} {v : Value} {h : Heap}
    (c : (rSlice s b R).rel xs [v] h) : ∃ ys : List β, ys.length = xs.length ∧ (∀ y ∈ ys, p y h) ∧ Reads s v ys.length (ys.flatMap enc) h := by
  obtain ⟨a, cap, e, l, m, r, k⟩ := c
  simp only [List.cons.injEq, and_true] at e
  subst e
  rcases k with k | ⟨g, o, cur, T, fr, ea, hg, hj⟩
  · subst k
    exact ⟨[], rfl, fun y hy => by simp at hy, by simp, a, cap, rfl, l, .inl rfl⟩
  · obtain ⟨ys, hl, hy⟩ := choose_list (n := xs.length) (p := fun j (y : β) => (cur.toList.drop (o + j * s)).take s = enc y ∧ p y h) fun j hj' => he _ _ _ (hj j hj').2
    refine ⟨ys, hl, fun y hm => ?_, ?_⟩
    · obtain ⟨i, hi, rfl⟩ := List.getElem_of_mem hm
      exact (hy i hi).2
    · refine ⟨flatMap_length hk ys, a, cap, by rw [hl], by omega, .inr ⟨g, o, cur, T, fr, ea, hg, fun t ht => ?_⟩⟩
      rw [flatMap_length hk] at ht
      obtain ⟨i, j, hi, hjs, e, hf⟩ := flatMap_at_all hk ys t ht
      rw [hf, ← (hy i hi).1, e, List.getElem?_take_of_lt hjs, List.getElem?_drop, Array.getElem?_toList]
      congr 1
      omega

/-- A part of an element, as a row. -/
theorem rowV_part {w : World} {b o k lo n : Nat} {cs : List Value} (hk : cs.length = k) (hc : ∀ j, j < k → w.cell? ⟨b, o + j, none⟩ = cs[j]?) (h : lo + n ≤ k) : rowV w ⟨b, o + lo, none⟩ n = some (.agg ((cs.drop lo).take n).toArray) := by
  unfold rowV
  rw [cellsFrom_of w _ n 0 ((cs.drop lo).take n) (by rw [List.length_take, List.length_drop]; omega) fun j hj => by
    rw [Nat.zero_add, add_lit, Nat.add_assoc, hc (lo + j) (by omega), List.getElem?_take_of_lt hj, List.getElem?_drop]]
  rfl

end Go.Proofs.YtijnmokpihhhcaaDoor

namespace Go.Proofs.YtijnmokpihhhcaaDoor
open Go
set_option linter.unusedVariables false

theorem flatMap_one {α β : Type} (f : α → β) (l : List α) : (l.flatMap fun x => [f x]) = l.map f := by
  induction l with
  | nil => rfl
  | cons a l ih => simp [ih]
theorem wf_i64 {z : Int} (h : (Lit.int .i64 z).wf = true) : -9223372036854775808 ≤ z ∧ z ≤ 9223372036854775807 := by
  simpa [Lit.wf, IntKind.min, IntKind.max, IntKind.signed, IntKind.bits] using h
theorem rSlice_len {α : Type} {s b : Nat} {R : Rdr α} {xs : List α} {v : Value} {h : Heap} (k : (rSlice s b R).rel xs [v] h) : xs.length * b ≤ reachBytes := by
  obtain ⟨_, _, _, _, _, r, _⟩ := k
  exact r
theorem rSlice_all {α : Type} {s b : Nat} {R : Rdr α} {xs : List α} {v : Value} {h : Heap} {p : α → Prop} (hp : ∀ x cs h, R.rel x cs h → p x) (k : (rSlice s b R).rel xs [v] h) : ∀ x ∈ xs, p x := by
  obtain ⟨_, _, _, _, _, _, k⟩ := k
  intro x hx
  rcases k with rfl | ⟨_, _, _, _, _, _, _, hj⟩
  · simp at hx
  · obtain ⟨j, hj', rfl⟩ := List.mem_iff_getElem.1 hx
    exact hp _ _ _ (hj j hj').2
theorem ints_arg {W : World} {xs : List Int} {v : Value} (k : (rSlice 1 8 (rInt .i64)).rel xs [v] (heapOf W)) :
    Ent (Old W) (Reads 1 v xs.length (xs.map fun z => .int .i64 z)) ∧ (∀ z ∈ xs, -9223372036854775808 ≤ z ∧ z ≤ 9223372036854775807) ∧ xs.length ≤ 4611686018427387904 := by
  refine ⟨?_, rSlice_all (R := rInt .i64) (fun x cs h e => wf_i64 e.2) k, ?_⟩
  · have := (Rdr.old k).trans (rSlice_reads (R := rInt .i64) (enc := fun z => [.int .i64 z]) (fun x cs h e => e.1) (fun _ => rfl))
    rwa [flatMap_one] at this
  · have := rSlice_len k
    have := reachBytes_lt
    omega
theorem texts_arg {W : World} {xs : List ByteArray} {v : Value} (k : (rSlice 1 16 rStr).rel xs [v] (heapOf W)) :
    Ent (Old W) (Reads 1 v (xs.map fun s => s.data.toList).length ((xs.map fun s => s.data.toList).map sv)) ∧ (xs.map fun s => s.data.toList).length ≤ 4611686018427387904 ∧ ∀ s ∈ xs.map fun s => s.data.toList, s.length ≤ 140737488355328 := by
  refine ⟨?_, ?_, ?_⟩
  · have := (Rdr.old k).trans (rSlice_reads (R := rStr) (enc := fun s => [.string s]) (fun x cs h e => e.1) (fun _ => rfl))
    rw [flatMap_one] at this
    rw [List.length_map, List.map_map]
    have e : (sv ∘ fun (s : ByteArray) => s.data.toList) = fun s => .string s := by
      funext s
      simp [sv, strOf_eta]
    rw [e]; exact this
  · have := rSlice_len k
    have := reachBytes_lt
    simp
    omega
  · intro s hs
    obtain ⟨x, hx, rfl⟩ := List.mem_map.1 hs
    have h1 := rSlice_all (R := rStr) (p := fun s => s.size ≤ reachBytes) (fun x cs h e => e.2) k x hx
    rw [Lib.size_eq] at h1
    have := reachBytes_lt
    omega
end Go.Proofs.YtijnmokpihhhcaaDoor

namespace Go.Proofs.YtijnmokpihhhcaaDoor
open Go
set_option linter.unusedVariables false
set_option linter.unusedSimpArgs false
set_option maxRecDepth 100000

theorem bytes_arg {W : World} {xs : List Int} {v : Value} {h : Heap} (k : (rSlice 1 1 (rInt .u8)).rel xs [v] h) : ∃ bs : List UInt8, RdB v bs h ∧ bs.length ≤ reachBytes := by
  obtain ⟨bs, hl, _, h2⟩ := rSlice_choose (β := UInt8) (enc := fun b => [bv b]) (p := fun _ _ => True) (fun x cs h r => by
    obtain ⟨rfl, w⟩ := r
    have hw : 0 ≤ x ∧ x ≤ 255 := by simpa [Lit.wf, IntKind.min, IntKind.max, IntKind.signed, IntKind.bits] using w
    refine ⟨UInt8.ofNat x.toNat, ?_, trivial⟩
    have : (((UInt8.ofNat x.toNat).toNat : Nat) : Int) = x := by simp; omega
    simp only [bv, this]) (fun _ => rfl) k
  have := rSlice_len k
  rw [flatMap_one] at h2
  exact ⟨bs, h2, by omega⟩

/-- An operation, and its data's slice. -/
structure OpV where
  o : OpD
  v : Value
def opVL (x : OpV) : List Value := opL x.o x.v
theorem opVL_len (x : OpV) : (opVL x).length = 20 := rfl
structure OpIs (x : OpV) (h : Heap) : Prop where
  kind : x.o.kind < 256
  mask : x.o.mask < 256
  offset : x.o.offset < 18446744073709551616
  mode : x.o.node.mode < 4294967296
  atime : x.o.node.atime < 4294967296
  mtime : x.o.node.mtime < 4294967296
  n0 : -9223372036854775808 ≤ x.o.n
  n1 : x.o.n ≤ 9223372036854775807
  data : RdB x.v x.o.data h
  dlen : x.o.data.length ≤ 140737488355328
  name : x.o.name.length ≤ 140737488355328
  nname : x.o.node.name.length ≤ 140737488355328
  uid : x.o.node.uid.length ≤ 140737488355328
  gid : x.o.node.gid.length ≤ 140737488355328
  muid : x.o.node.muid.length ≤ 140737488355328

abbrev rInf := rCons 1 (rInt .u64) (rCons 1 (rInt .u64) (rCons 1 rStr (rCons 1 (rInt .u32) (rCons 1 rStr (rCons 1 rStr (rCons 1 rStr (rCons 1 (rInt .u32) (rCons 1 (rInt .u32) (rCons 1 (rInt .u32) (rCons 1 (rInt .u64) (rCons 1 (rInt .i64) (rCons 1 (rInt .i64) (rEnd)))))))))))))
abbrev rOp := rCons 1 (rInt .u8) (rCons 1 (rInt .u64) (rCons 1 rStr (rCons 1 (rInt .u8) (rCons 13 rInf (rCons 1 (rInt .u64) (rCons 1 (rSlice 1 1 (rInt .u8)) (rCons 1 (rInt .i64) (rEnd))))))))

theorem wf_u8 {z : Int} (h : (Lit.int .u8 z).wf = true) : ((z.toNat : Nat) : Int) = z ∧ z.toNat < 256 := by
  have : 0 ≤ z ∧ z ≤ 255 := by simpa [Lit.wf, IntKind.min, IntKind.max, IntKind.signed, IntKind.bits] using h
  omega
theorem wf_u32 {z : Int} (h : (Lit.int .u32 z).wf = true) : ((z.toNat : Nat) : Int) = z ∧ z.toNat < 4294967296 := by
  have : 0 ≤ z ∧ z ≤ 4294967295 := by simpa [Lit.wf, IntKind.min, IntKind.max, IntKind.signed, IntKind.bits] using h
  omega
theorem wf_u64 {z : Int} (h : (Lit.int .u64 z).wf = true) : ((z.toNat : Nat) : Int) = z ∧ z.toNat < 18446744073709551616 := by
  have : 0 ≤ z ∧ z ≤ 18446744073709551615 := by simpa [Lit.wf, IntKind.min, IntKind.max, IntKind.signed, IntKind.bits] using h
  omega
theorem str_reach {s : ByteArray} (h : s.size ≤ reachBytes) : s.data.toList.length ≤ 140737488355328 := by
  have hq : reachBytes = 140737488351232 := rfl
  rw [Lib.size_eq] at h
  omega
theorem rOp_cells {x} {cs : List Value} {h : Heap} (r : rOp.rel x cs h) : ∃ y : OpV, cs = opVL y ∧ OpIs y h := by
  obtain ⟨x1, x2, x3, x4, ⟨y1, y2, y3, y4, y5, y6, y7, y8, y9, y10, y11, y12, y13, _⟩, x6, x7, x8, _⟩ := x
  obtain ⟨_, _, rfl, _, ⟨rfl, w1⟩, _, _, rfl, _, ⟨rfl, w2⟩, _, _, rfl, _, ⟨rfl, w3⟩, _, _, rfl, _, ⟨rfl, w4⟩, ci, _, rfl, _, ri, _, _, rfl, _, ⟨rfl, w6⟩, cd, _, rfl, hl7, r7, _, _, rfl, _, ⟨rfl, w8⟩, rfl⟩ := r
  obtain ⟨_, _, rfl, _, ⟨rfl, i1⟩, _, _, rfl, _, ⟨rfl, i2⟩, _, _, rfl, _, ⟨rfl, i3⟩, _, _, rfl, _, ⟨rfl, i4⟩, _, _, rfl, _, ⟨rfl, i5⟩, _, _, rfl, _, ⟨rfl, i6⟩, _, _, rfl, _, ⟨rfl, i7⟩, _, _, rfl, _, ⟨rfl, i8⟩, _, _, rfl, _, ⟨rfl, i9⟩, _, _, rfl, _, ⟨rfl, i10⟩, _, _, rfl, _, ⟨rfl, i11⟩, _, _, rfl, _, ⟨rfl, i12⟩, _, _, rfl, _, ⟨rfl, i13⟩, rfl⟩ := ri
  obtain ⟨v, rfl⟩ : ∃ v, cd = [v] := by
    match cd, hl7 with
    | [v], _ => exact ⟨v, rfl⟩
  obtain ⟨bs, hb, hbl⟩ := bytes_arg (W := default) r7
  obtain ⟨a1, a2⟩ := wf_u8 w1
  obtain ⟨b1, b2⟩ := wf_u64 w2
  obtain ⟨c1, c2⟩ := wf_u8 w4
  obtain ⟨d1, d2⟩ := wf_u64 w6
  obtain ⟨e1, e2⟩ := wf_i64 w8
  obtain ⟨f1, f2⟩ := wf_u64 i1
  obtain ⟨g1, g2⟩ := wf_u64 i2
  obtain ⟨h1, h2⟩ := wf_u32 i4
  obtain ⟨k1, k2⟩ := wf_u32 i8
  obtain ⟨l1, l2⟩ := wf_u32 i9
  obtain ⟨m1, m2⟩ := wf_u32 i10
  obtain ⟨n1, n2⟩ := wf_u64 i11
  have hq : reachBytes = 140737488351232 := rfl
  refine ⟨⟨⟨x1.toNat, x2.toNat, x3.data.toList, x4.toNat, ⟨y1.toNat, y2.toNat, y3.data.toList, y4.toNat, y5.data.toList, y6.data.toList, y7.data.toList, y8.toNat, y9.toNat, y10.toNat, y11.toNat, y12, y13⟩, x6.toNat, bs, x8⟩, v⟩, ?_, ⟨a2, c2, d2, h2, k2, l2, e1, e2, hb, (by show bs.length ≤ 140737488355328; omega), str_reach w3, str_reach i3, str_reach i5, str_reach i6, str_reach i7⟩⟩
  simp only [opVL, opL, strOf_eta, a1, b1, c1, d1, f1, g1, h1, k1, l1, m1, n1, List.cons_append, List.nil_append]
end Go.Proofs.YtijnmokpihhhcaaDoor

namespace Go.Proofs.YtijnmokpihhhcaaDoor
open Go
set_option linter.unusedVariables false
set_option linter.unusedSimpArgs false
set_option maxRecDepth 100000

/-- A step, as it is handed in. -/
structure PutD where
  kind : Int
  file : Int
  at_ : Int
  n : Int
  v : Nat
def putC (p : PutD) : List Value := [.int .i64 p.kind, .int .i64 p.file, .int .i64 p.at_, .int .i64 p.n, .int .u8 p.v]
theorem putC_len (p : PutD) : (putC p).length = 5 := rfl
def InI64 (z : Int) : Prop := -9223372036854775808 ≤ z ∧ z ≤ 9223372036854775807
structure PutOk (p : PutD) : Prop where
  kind : InI64 p.kind
  file : InI64 p.file
  at_ : InI64 p.at_
  n : InI64 p.n
  v : p.v < 256
/-- What is written. -/
def dataF (v n : Nat) : List UInt8 := (List.range n).map fun j => UInt8.ofNat (v + j)
theorem data_len (v n : Nat) : (dataF v n).length = n := by simp [dataF]
theorem data_succ (v n : Nat) : dataF v (n + 1) = dataF v n ++ [UInt8.ofNat (v + n)] := by simp [dataF, List.range_succ]

theorem wrap_v (v j : Nat) : IntKind.u8.wrap ((v : Int) + (j : Int)) = ((UInt8.ofNat (v + j)).toNat : Int) := by
  have h1 : (UInt8.ofNat (v + j)).toNat = (v + j) % 256 := by simp
  rw [h1]
  unfold IntKind.wrap
  simp only [IntKind.bits, IntKind.signed, Bool.false_and, Bool.false_eq_true, if_false]
  omega
/-- The registers that stay. -/
structure BR (ds : List Deferred) (a : Option Addr) (len c b K L i k at_ n : Nat) (e : FA) : Prop where
  ds : e.ds = ds
  e0 : e.ρ 0 = .slice a len c
  e3 : e.ρ 3 = .bool true
  e4 : e.ρ 4 = .pointer (some ⟨b, 0, none⟩)
  e9 : e.ρ 9 = .pointer (some ⟨K, 0, none⟩)
  e10 : e.ρ 10 = .pointer (some ⟨L, 0, none⟩)
  e11 : e.ρ 11 = .int .i64 i
  e12 : e.ρ 12 = .int .i64 k
  e13 : e.ρ 13 = .int .i64 at_
  e14 : e.ρ 14 = .int .i64 n
  e15 : e.ρ 15 = .int .u64 ((2 + k : Nat) : Int)
theorem BR.put {ds : List Deferred} {a : Option Addr} {len c b K L i k at_ n : Nat} {e : FA} (h : BR ds a len c b K L i k at_ n e) {d : Nat} (hd : 16 ≤ d) (v : Value) : BR ds a len c b K L i k at_ n (e.put (some d) v) := by
  have hp : ∀ r, r < 16 → (e.put (some d) v).ρ r = e.ρ r := fun r hr => by
    show (if r = d then v else e.ρ r) = _
    rw [if_neg (by omega)]
  exact ⟨h.ds, (hp 0 (by decide)).trans h.e0, (hp 3 (by decide)).trans h.e3, (hp 4 (by decide)).trans h.e4, (hp 9 (by decide)).trans h.e9, (hp 10 (by decide)).trans h.e10, (hp 11 (by decide)).trans h.e11, (hp 12 (by decide)).trans h.e12, (hp 13 (by decide)).trans h.e13, (hp 14 (by decide)).trans h.e14, (hp 15 (by decide)).trans h.e15⟩
abbrev KnowR (v : Value) (bs : List UInt8) : HP := RowO 5 1 v 65536 (bs.map bv)

theorem over_step {c d : List UInt8} {at_ j : Nat} {y : UInt8} (hj : at_ + j < c.length) (hd : d.length = j) : (overF c at_ d).set (at_ + j) y = overF c at_ (d ++ [y]) := by
  unfold overF
  rw [List.append_assoc, List.set_append_right _ _ (by simp; omega), List.set_append_right _ _ (by simp; omega)]
  have h1 : at_ + j - (c.take at_).length - d.length = 0 := by simp; omega
  have h2 : at_ + d.length < c.length := by omega
  rw [h1, List.length_append, List.length_singleton, List.drop_eq_getElem_cons h2, List.set_cons_zero]
  simp [Nat.add_assoc]
theorem set_data {v n j : Nat} (hj : j < n) : (dataF v j ++ List.replicate (n - j) (0 : UInt8)).set j (UInt8.ofNat (v + j)) = dataF v (j + 1) ++ List.replicate (n - (j + 1)) 0 := by
  rw [List.set_append_right _ _ (by rw [data_len]; exact Nat.le_refl _), data_len, Nat.sub_self, show n - j = (n - (j + 1)) + 1 by omega, List.replicate_succ, List.set_cons_zero, data_succ, List.append_assoc]
  rfl
theorem over_nil (c : List UInt8) (at_ : Nat) : overF c at_ [] = c := by simp [overF]

section
variable {w0 w : World} {F : HP} {a : Option Addr} {c b K L i k at_ n : Nat} {ls : List PutD} {e : FA}
section
attribute [local go_sem] F5.t27_eq F5.t28_eq F5.t30_eq F5.t37_eq F5.t38_eq F5.t39_eq F5.t48_eq F5.t15_eq F5.t16_eq F5.t51_eq F5.t12_eq F5.t11_eq F5.t7_eq F5.t4_eq
/-- The data is made, and known. -/
theorem bytes_loop3 {Q : Post} {ds : List Deferred} {bd gk ok ck : Nat} {kc : Array Value} {u : List UInt8} {θ : Tag ((.loop (((Cd.region 26 F5.r26.toArray false).seq (Cd.cond (.tmp 117) .skip (.exit 3))).seq F5.t28) : Cd), Q, e, w)}
    (hr : Ent F (Reads 5 (.slice a ls.length c) ls.length (ls.flatMap putC))) (hi : i < ls.length) (hv : ls[i].v < 256) (hkc : kc[k]? = some (.slice (some ⟨gk, ok, none⟩) 65536 ck)) (hk : k < 2) (hu : u.length = 65536) (hat : at_ + n ≤ 65536) (hn : n ≤ 256)
    (hb : BR ds a ls.length c b K L i k at_ n e) (e16 : e.ρ 16 = .slice (some ⟨bd, 0, none⟩) n n) (e17 : e.ρ 17 = .int .i64 0)
    (h : St w0 (RowO 5 1 (.slice (some ⟨bd, 0, none⟩) n n) n ((List.replicate n (0 : UInt8)).map bv) * (KnowR (.slice (some ⟨gk, ok, none⟩) 65536 ck) u * (Blk K (.cells kc 55 (0, 0)) * F))) w)
    (hQ : ∀ e' w', BR ds a ls.length c b K L i k at_ n e' → e'.ρ 16 = .slice (some ⟨bd, 0, none⟩) n n → St w0 (RowO 5 1 (.slice (some ⟨bd, 0, none⟩) n n) n ((dataF ls[i].v n).map bv) * (KnowR (.slice (some ⟨gk, ok, none⟩) 65536 ck) (overF u at_ (dataF ls[i].v n)) * (Blk K (.cells kc 55 (0, 0)) * F))) w' → Q (.exit 3) e' w') :
    cwE Tryd.prog (.loop (((Cd.region 26 F5.r26.toArray false).seq (Cd.cond (.tmp 117) .skip (.exit 3))).seq F5.t28)) Q e w θ := by
  refine loop_intro (fun e w' => BR ds a ls.length c b K L i k at_ n e ∧ e.ρ 16 = .slice (some ⟨bd, 0, none⟩) n n ∧ ∃ j : Nat, j ≤ n ∧ e.ρ 17 = .int .i64 j ∧ St w0 (RowO 5 1 (.slice (some ⟨bd, 0, none⟩) n n) n ((dataF ls[i].v j ++ List.replicate (n - j) (0 : UInt8)).map bv) * (KnowR (.slice (some ⟨gk, ok, none⟩) 65536 ck) (overF u at_ (dataF ls[i].v j)) * (Blk K (.cells kc 55 (0, 0)) * F))) w')
    (fun e _ => match e.ρ 17 with | .int _ x => (n - x).toNat | _ => 0) ?_ ?_
  · refine ⟨hb, e16, 0, by omega, e17, ?_⟩
    rw [show dataF ls[i].v 0 = [] from rfl, over_nil, List.nil_append, Nat.sub_zero]
    exact h
  clear h hb e16 e17
  rintro e w ⟨hb, e16, j, hj, e17, h⟩
  obtain ⟨hd, e0, e3, e4, e9, e10, e11, e12, e13, e14, e15⟩ := id hb
  by_cases hlt : (j : Int) < n
  case neg =>
    have : j = n := by omega
    subst this
    rw [Nat.sub_self, List.replicate_zero, List.append_nil] at h
    simp -dsimp -implicitDefEqProofs (disch := omega) only [go_sem, reqD_of, dec_t, dec_f, wrap_i64, wrap_u32, wrap_u64, wrap_u8, hd, e14, e17, hlt]
    refine hQ _ _ ?_ (by simp -dsimp -implicitDefEqProofs only [go_sem, e16]) h
    repeat first | exact hb | refine BR.put ?_ (by decide) _
  have hjn : j < n := by omega
  obtain ⟨_, a', c', hv', _, hat'⟩ := St.rowsAt putC_len (by decide) (h.right.right.right.ent hr)
  simp only [Value.slice.injEq, true_and] at hv'
  obtain ⟨rfl, rfl⟩ := hv'
  obtain ⟨g, o, rfl, _, hc⟩ := hat' i hi
  have p4 : w.cell? ⟨g, o + i * 5 + 4, none⟩ = some (.int .u8 ls[i].v) := hc 4 (by decide)
  have hwv : IntKind.u8.wrap ((ls[i].v : Int) + (j : Int)) = ((UInt8.ofNat (ls[i].v + j)).toNat : Int) := wrap_v _ _
  have hcell : ∀ {w F}, St w0 (RowO 5 1 (.slice (some ⟨bd, 0, none⟩) n n) n ((dataF ls[i].v (j + 1) ++ List.replicate (n - (j + 1)) (0 : UInt8)).map bv) * F) w → w.cell? ⟨bd, j, none⟩ = some (bv (UInt8.ofNat (ls[i].v + j))) := fun h => by
    obtain ⟨b', o', e1, e2⟩ := (h.left.ent (RowO.reads _ _ _ _ _)).atS (a := some ⟨bd, 0, none⟩) (n := n) (c := n) (xs := (dataF ls[i].v (j + 1) ++ List.replicate (n - (j + 1)) (0 : UInt8)).map bv) (k := j) (by simp [data_len]; omega)
    simp only [Option.some.injEq, Addr.mk.injEq, and_true] at e1
    obtain ⟨rfl, rfl⟩ := e1
    rw [Nat.zero_add] at e2
    rw [e2, List.getElem_map, List.getElem_append_left (by rw [data_len]; omega)]
    simp [dataF]
  simp -dsimp -implicitDefEqProofs (disch := omega) only [go_sem, reqD_of, dec_t, dec_f, wrap_i64, wrap_u32, wrap_u64, wrap_u8, hd, e0, e9, e11, e12, e13, e14, e16, e17, hlt, p4]
  rw [hwv]
  rw [show (⟨bd, j, none⟩ : Addr) = ⟨bd, 0 + j, none⟩ by rw [Nat.zero_add]]
  refine h.rowSet1 (g := bd) (o := 0) (n := n) (c := n) (k := j) (v := bv (UInt8.ofNat (ls[i].v + j))) (by simp [data_len]; omega) rfl fun w1 h1 => ?_
  rw [← List.map_set, set_data hjn] at h1
  have h1d := h1.drew
  have hkd : w1.drew.cell? ⟨K, k, none⟩ = some (.slice (some ⟨gk, ok, none⟩) 65536 ck) := by rw [h1d.right.right.cells]; exact hkc
  simp -dsimp -implicitDefEqProofs (disch := omega) only [go_sem, reqD_of, dec_t, dec_f, wrap_i64, wrap_u32, wrap_u64, wrap_u8, hd, e0, e9, e11, e12, e13, e14, e16, e17, hkd, hcell h1d]
  have hla : (dataF ls[i].v j).length = j := data_len _ _
  have hol : (overF u at_ (dataF ls[i].v j)).length = 65536 := by rw [overF_len (by omega), hu]
  rw [show ((at_ : Int) + (j : Int)).toNat = at_ + j by omega]
  refine h1d.rowSet1 (g := gk) (o := ok) (n := 65536) (c := ck) (k := at_ + j) (v := bv (UInt8.ofNat (ls[i].v + j))) (by rw [List.length_map]; omega) rfl fun w2 h2 => ?_
  rw [← List.map_set, over_step (by omega) hla, ← data_succ] at h2
  have hkd2 : w2.cell? ⟨K, k, none⟩ = some (.slice (some ⟨gk, ok, none⟩) 65536 ck) := by rw [h2.right.right.cells]; exact hkc
  simp -dsimp -implicitDefEqProofs (disch := omega) only [go_sem, reqD_of, dec_t, dec_f, wrap_i64, wrap_u32, wrap_u64, wrap_u8, hd, e0, e9, e11, e12, e13, e14, e16, e17, hkd2, hcell h2]
  refine ⟨⟨?_, j + 1, by omega, by omega, h2⟩, by omega⟩
  repeat first | exact hb | refine BR.put ?_ (by decide) _

/-- What is cut is nought. -/
theorem bytes_loop5 {Q : Post} {ds : List Deferred} {gk ok ck ln : Nat} {kc lc : Array Value} {u : List UInt8} {len : Nat} {θ : Tag ((.loop (((Cd.region 36 F5.r36.toArray false).seq (Cd.cond (.tmp 170) .skip (.exit 5))).seq F5.t38) : Cd), Q, e, w)}
    (hkc : kc[k]? = some (.slice (some ⟨gk, ok, none⟩) 65536 ck)) (hlc : lc[k]? = some (.int .i64 (ln : Int))) (hk : k < 2) (hu : u.length = 65536) (hat : at_ ≤ 65536) (hln : ln ≤ 65536)
    (hb : BR ds a len c b K L i k at_ n e) (e20 : e.ρ 20 = .int .i64 at_)
    (h : St w0 (KnowR (.slice (some ⟨gk, ok, none⟩) 65536 ck) u * (Blk K (.cells kc 55 (0, 0)) * (Blk L (.cells lc 56 (0, 0)) * F))) w)
    (hQ : ∀ e' w', BR ds a len c b K L i k at_ n e' → St w0 (KnowR (.slice (some ⟨gk, ok, none⟩) 65536 ck) (overF u at_ (List.replicate (ln - at_) 0)) * (Blk K (.cells kc 55 (0, 0)) * (Blk L (.cells lc 56 (0, 0)) * F))) w' → Q (.exit 5) e' w') :
    cwE Tryd.prog (.loop (((Cd.region 36 F5.r36.toArray false).seq (Cd.cond (.tmp 170) .skip (.exit 5))).seq F5.t38)) Q e w θ := by
  refine loop_intro (fun e w' => BR ds a len c b K L i k at_ n e ∧ ∃ j : Nat, (at_ + j ≤ ln ∨ j = 0) ∧ e.ρ 20 = .int .i64 (at_ + j : Nat) ∧ St w0 (KnowR (.slice (some ⟨gk, ok, none⟩) 65536 ck) (overF u at_ (List.replicate j 0)) * (Blk K (.cells kc 55 (0, 0)) * (Blk L (.cells lc 56 (0, 0)) * F))) w')
    (fun e _ => match e.ρ 20 with | .int _ x => (ln - x).toNat | _ => 0) ?_ ?_
  · refine ⟨hb, 0, .inr rfl, e20, ?_⟩
    rw [List.replicate_zero, over_nil]
    exact h
  clear h hb e20
  rintro e w ⟨hb, j, hj, e20, h⟩
  obtain ⟨hd, e0, e3, e4, e9, e10, e11, e12, e13, e14, e15⟩ := id hb
  have hL : w.cell? ⟨L, k, none⟩ = some (.int .i64 (ln : Int)) := by rw [h.right.right.cells]; exact hlc
  by_cases hlt : ((at_ + j : Nat) : Int) < ln
  case neg =>
    have hjl : ln - at_ = j := by omega
    rw [hjl] at hQ
    simp -dsimp -implicitDefEqProofs (disch := omega) only [go_sem, reqD_of, dec_t, dec_f, wrap_i64, wrap_u32, wrap_u64, wrap_u8, hd, e10, e12, e20, hL, hlt]
    refine hQ _ _ ?_ h
    repeat first | exact hb | refine BR.put ?_ (by decide) _
  have hK : w.cell? ⟨K, k, none⟩ = some (.slice (some ⟨gk, ok, none⟩) 65536 ck) := by rw [h.right.cells]; exact hkc
  simp -dsimp -implicitDefEqProofs (disch := omega) only [go_sem, reqD_of, dec_t, dec_f, wrap_i64, wrap_u32, wrap_u64, wrap_u8, hd, e9, e10, e12, e20, hL, hK, hlt]
  have hla : (List.replicate j (0 : UInt8)).length = j := by simp
  have hol : (overF u at_ (List.replicate j 0)).length = 65536 := by rw [overF_len (by omega), hu]
  refine h.rowSet1 (g := gk) (o := ok) (n := 65536) (c := ck) (k := at_ + j) (v := bv 0) (by rw [List.length_map]; omega) rfl fun w1 h1 => ?_
  rw [← List.map_set, over_step (by omega) hla, show List.replicate j (0 : UInt8) ++ [0] = List.replicate (j + 1) 0 by rw [List.replicate_succ']] at h1
  simp -dsimp -implicitDefEqProofs (disch := omega) only [go_sem, reqD_of, dec_t, dec_f, wrap_i64, wrap_u32, wrap_u64, wrap_u8, hd, e9, e10, e12, e20]
  refine ⟨⟨?_, j + 1, by omega, by omega, h1⟩, by omega⟩
  repeat first | exact hb | refine BR.put ?_ (by decide) _
end
end
end Go.Proofs.YtijnmokpihhhcaaDoor

namespace Go.Proofs.YtijnmokpihhhcaaDoor
open Go
set_option linter.unusedVariables false
set_option linter.unusedSimpArgs false
set_option maxRecDepth 100000

/-- What NodesBytes owns: the store; what is known of both files; how long they are. -/
abbrev BytW (b K L : Nat) (v0 v1 : Value) (x y : List UInt8) (A : HP) : HP :=
  StoreP b 0 0 (byteS x y) * (KnowR v0 (knowF x) * (KnowR v1 (knowF y) * (Blk K (.cells #[v0, v1] 55 (0, 0)) * (Blk L (.cells #[.int .i64 x.length, .int .i64 y.length] 56 (0, 0)) * NilB A))))
theorem lay_max {x d : List UInt8} {at_ n : Nat} (hd : d.length = n) : (if (x.length : Int) < (at_ : Int) + (n : Int) then (at_ : Int) + (n : Int) else (x.length : Int)) = ((layF x at_ d).length : Int) := by
  rw [layF_len, hd]; split <;> omega
theorem lay_know {x d : List UInt8} {at_ : Nat} (hx : x.length ≤ 65536) (h2 : at_ + d.length ≤ 65536) : overF (knowF x) at_ d = knowF (layF x at_ d) := know_lay hx h2
theorem cut_know {x : List UInt8} {at_ : Nat} (hx : x.length ≤ 65536) (h2 : at_ ≤ 65536) : overF (knowF x) at_ (List.replicate (x.length - at_) 0) = knowF (padF x at_) := by
  rw [← know_cut hx h2]
  unfold overF
  rw [List.length_replicate, List.append_assoc]
theorem byteS_next (x y : List UInt8) : (byteS x y).next = 4 := rfl

section
variable {w0 w : World} {A : HP} {a : Option Addr} {len c b K L i at_ n : Nat} {v0 v1 : Value} {x y : List UInt8} {e : FA} {Q : Post}

section
attribute [local go_sem] F5.t27_eq F5.t28_eq F5.t30_eq F5.t37_eq F5.t38_eq F5.t39_eq F5.t15_eq F5.t16_eq F5.t51_eq F5.t12_eq F5.t11_eq F5.t7_eq F5.t4_eq
/-- Bytes are written, file 0. -/
theorem bytes_t30_0 {θ : Tag (F5.t30, Q, e, w)} {bd : Nat} {d : List UInt8} [Gives A Tabs] (hx : x.length ≤ 65536) (hy : y.length ≤ 65536) (hd : d.length = n) (h0 : 0 < n) (h1 : at_ % 256 + n ≤ 256) (h2 : at_ + n ≤ 65536)
    (hb : BR [] a len c b K L i 0 at_ n e) (e16 : e.ρ 16 = .slice (some ⟨bd, 0, none⟩) n n)
    (h : St w0 (StoreP b 0 0 (byteS x y) * (RowO 5 1 (.slice (some ⟨bd, 0, none⟩) n n) n (d.map bv) * (KnowR v0 (overF (knowF x) at_ d) * (KnowR v1 (knowF y) * (Blk K (.cells #[v0, v1] 55 (0, 0)) * (Blk L (.cells #[.int .i64 x.length, .int .i64 y.length] 56 (0, 0)) * NilB A)))))) w)
    (hQ : ∀ e' w', BR [] a len c b K L i 0 at_ n e' → St w0 (BytW b K L v0 v1 (layF x at_ d) (y) A) w' → Q .normal e' w') :
    cwE Tryd.prog F5.t30 Q e w θ := by
  rw [F5.t30_eq]
  obtain ⟨hd', e0, e3, e4, e9, e10, e11, e12, e13, e14, e15⟩ := id hb
  simp only [Int.cast_ofNat_Int, Nat.add_zero, Nat.reduceAdd] at e12 e15
  have hL : w.cell? ⟨L, 0, none⟩ = some (.int .i64 x.length) := (h.cl L) 0
  have hmax := lay_max (x := x) (d := d) (at_ := at_) hd
  have hne : d ≠ [] := fun hh => by rw [hh] at hd; simp at hd; omega
  have hdo := do_bytes (a := x) (b := y) (d := d) (off := at_) (k := 0) (by decide) hne (by rw [hd]; exact h1) (by rw [hd]; exact h2)
  simp only [Nat.add_zero, Nat.reduceAdd, if_true, Nat.one_ne_zero, if_false] at hdo
  simp -dsimp -implicitDefEqProofs (disch := omega) only [go_sem, reqD_of, dec_t, dec_f, wrap_i64, wrap_u32, wrap_u64, wrap_u8, hd', e0, e3, e4, e9, e10, e11, e12, e13, e14, e15, e16, hL]
  rw [hmax]
  refine h.sto (b := L) (off := 0) (by simp) rfl fun w1 h3 => ?_
  simp only [List.setIfInBounds_toArray, List.set_cons_succ, List.set_cons_zero] at h3
  simp -dsimp -implicitDefEqProofs (disch := omega) only [go_sem, reqD_of, dec_t, dec_f, wrap_i64, wrap_u32, wrap_u64, wrap_u8, hd', e0, e3, e4, e9, e10, e11, e12, e13, e14, e15, e16]
  refine onV_of (v := .agg (opL (bytesO 2 at_ d) (.slice (some ⟨bd, 0, none⟩) n n)).toArray) (by rfl) ?_
  simp -dsimp -implicitDefEqProofs (disch := omega) only [go_sem, reqD_of, dec_t, dec_f, wrap_i64, wrap_u32, wrap_u64, wrap_u8, hd', e0, e3, e4, e9, e10, e11, e12, e13, e14, e15, e16]
  haveI : Gives (RowO 5 1 (.slice (some ⟨bd, 0, none⟩) n n) n (d.map bv) * (KnowR v0 (overF (knowF x) at_ d) * (KnowR v1 (knowF y) * (Blk K (.cells #[v0, v1] 55 (0, 0)) * (Blk L (.cells #[.int .i64 ((layF x at_ d).length : Int), .int .i64 y.length] 56 (0, 0)) * NilB A))))) (RdB (.slice (some ⟨bd, 0, none⟩) n n) (bytesO 2 at_ d).data) := ⟨by
    show Ent _ (Reads 1 _ d.length (d.map bv))
    rw [hd]
    exact (Ent.left _ _).trans (RowO.reads _ _ _ _ _)⟩
  refine (do_any (o := bytesO 2 at_ d) (vd := .slice (some ⟨bd, 0, none⟩) n n) (bytesO_in _ (by omega) (by omega)) (by show 6 < 256; decide) (by rw [byteS_next]; decide) h3).mono ?_
  rintro e' w2 ⟨h4, rfl⟩
  rw [hdo] at h4 ⊢
  simp -dsimp -implicitDefEqProofs (disch := omega) only [go_sem, reqD_of, dec_t, dec_f, wrap_i64, wrap_u32, wrap_u64, wrap_u8, hd', e0, e3, e4, e9, e10, e11, e12, e13, e14, e15, e16]
  refine hQ _ _ ?_ ?_
  · repeat first | exact hb | refine BR.put ?_ (by decide) _
  · rw [lay_know (by omega) (by omega)] at h4
    exact h4.drop2

/-- A cut, file 0. -/
theorem bytes_t39_0 {θ : Tag (F5.t39, Q, e, w)} [Gives A Tabs] (hx : x.length ≤ 65536) (hy : y.length ≤ 65536) (h2 : at_ ≤ 65536)
    (hb : BR [] a len c b K L i 0 at_ n e)
    (h : St w0 (StoreP b 0 0 (byteS x y) * (KnowR v0 (overF (knowF x) at_ (List.replicate (x.length - at_) 0)) * (KnowR v1 (knowF y) * (Blk K (.cells #[v0, v1] 55 (0, 0)) * (Blk L (.cells #[.int .i64 x.length, .int .i64 y.length] 56 (0, 0)) * NilB A))))) w)
    (hQ : ∀ e' w', BR [] a len c b K L i 0 at_ n e' → St w0 (BytW b K L v0 v1 (padF x at_) (y) A) w' → Q .normal e' w') :
    cwE Tryd.prog F5.t39 Q e w θ := by
  rw [F5.t39_eq]
  obtain ⟨hd', e0, e3, e4, e9, e10, e11, e12, e13, e14, e15⟩ := id hb
  simp only [Int.cast_ofNat_Int, Nat.add_zero, Nat.reduceAdd] at e12 e15
  have hdo := do_cut (a := x) (b := y) (off := at_) (k := 0) (by decide) h2
  simp only [Nat.add_zero, Nat.reduceAdd, if_true, Nat.one_ne_zero, if_false] at hdo
  have hpl := padF_len x at_
  simp -dsimp -implicitDefEqProofs (disch := omega) only [go_sem, reqD_of, dec_t, dec_f, wrap_i64, wrap_u32, wrap_u64, wrap_u8, hd', e0, e3, e4, e9, e10, e11, e12, e13, e14, e15]
  refine h.sto (b := L) (off := 0) (by simp) rfl fun w1 h3 => ?_
  simp only [List.setIfInBounds_toArray, List.set_cons_succ, List.set_cons_zero] at h3
  simp -dsimp -implicitDefEqProofs (disch := omega) only [go_sem, reqD_of, dec_t, dec_f, wrap_i64, wrap_u32, wrap_u64, wrap_u8, hd', e0, e3, e4, e9, e10, e11, e12, e13, e14, e15]
  refine onV_of (v := .agg (opL (cutO 2 at_) (.slice none 0 0)).toArray) (by rfl) ?_
  simp -dsimp -implicitDefEqProofs (disch := omega) only [go_sem, reqD_of, dec_t, dec_f, wrap_i64, wrap_u32, wrap_u64, wrap_u8, hd', e0, e3, e4, e9, e10, e11, e12, e13, e14, e15]
  haveI : Gives (NilB A) (RdB (.slice none 0 0) (cutO 2 at_).data) := NilB.gives A rfl
  refine (do_any (o := cutO 2 at_) (vd := .slice none 0 0) (cutO_in _ (by omega)) (by show 5 < 256; decide) (by rw [byteS_next]; decide) h3).mono ?_
  rintro e' w2 ⟨h4, rfl⟩
  rw [hdo] at h4 ⊢
  simp -dsimp -implicitDefEqProofs (disch := omega) only [go_sem, reqD_of, dec_t, dec_f, wrap_i64, wrap_u32, wrap_u64, wrap_u8, hd', e0, e3, e4, e9, e10, e11, e12, e13, e14, e15]
  refine hQ _ _ ?_ ?_
  · repeat first | exact hb | refine BR.put ?_ (by decide) _
  · rw [cut_know (by omega) (by omega)] at h4
    show St w0 (_ * (_ * (_ * (_ * (Blk L (.cells #[.int .i64 _, .int .i64 _] _ _) * _))))) w2
    rw [hpl]
    exact h4
/-- The file's length is as it is known, file 0. -/
theorem bytes_t48_0 {θ : Tag (F5.t48, Q, e, w)} (hx : x.length ≤ 65536) (hy : y.length ≤ 65536)
    (hb : BR [] a len c b K L i 0 at_ n e) (h : St w0 (BytW b K L v0 v1 x y A) w)
    (hQ : ∀ e' w', BR [] a len c b K L i 0 at_ n e' → St w0 (BytW b K L v0 v1 x y A) w' → Q .normal e' w') :
    cwE Tryd.prog F5.t48 Q e w θ := by
  rw [F5.t48_eq]
  obtain ⟨hd', e0, e3, e4, e9, e10, e11, e12, e13, e14, e15⟩ := id hb
  simp only [Int.cast_ofNat_Int, Nat.add_zero, Nat.reduceAdd] at e12 e15
  obtain ⟨q1, q2⟩ := byte_node (a := x) (b := y) (k := 0) (by decide)
  simp only [Nat.add_zero, Nat.reduceAdd, fst2, if_true, Nat.one_ne_zero, if_false] at q1 q2
  simp -dsimp -implicitDefEqProofs (disch := omega) only [go_sem, reqD_of, dec_t, dec_f, wrap_i64, wrap_u32, wrap_u64, wrap_u8, hd', e0, e3, e4, e9, e10, e11, e12, e13, e14, e15]
  refine (node_any (p := 2) h).mono ?_
  rintro e' w1 ⟨h1, rfl⟩
  rw [toldV, q1]
  simp -dsimp -implicitDefEqProofs (disch := omega) only [go_sem, reqD_of, dec_t, dec_f, wrap_i64, wrap_u32, wrap_u64, wrap_u8, hd', e0, e3, e4, e9, e10, e11, e12, e13, e14, e15]
  refine h1.new fun D w2 h2 => ?_
  simp -dsimp -implicitDefEqProofs (disch := omega) only [go_sem, reqD_of, dec_t, dec_f, wrap_i64, wrap_u32, wrap_u64, wrap_u8, hd', e0, e3, e4, e9, e10, e11, e12, e13, e14, e15]
  refine h2.stoAll (b := D) (cs := infL (toldI (byteS x y) 2)) rfl rfl (infL_cells _) fun w3 h3 => ?_
  have hD := h3.drew
  have p1 : w3.drew.cell? ⟨D, 10, none⟩ = some (.int .u64 (x.length : Int)) := by rw [← q2]; exact (hD.cl D) 10
  have p2 : w3.drew.cell? ⟨L, 0, none⟩ = some (.int .i64 (x.length : Int)) := (hD.cl L) 0
  simp -dsimp -implicitDefEqProofs (disch := omega) only [go_sem, reqD_of, dec_t, dec_f, wrap_i64, wrap_u32, wrap_u64, wrap_u8, hd', e0, e3, e4, e9, e10, e11, e12, e13, e14, e15, p1, p2]
  refine hQ _ _ ?_ hD.right
  repeat first | exact hb | refine BR.put ?_ (by decide) _

end
section
attribute [local go_sem] F5.t27_eq F5.t28_eq F5.t30_eq F5.t37_eq F5.t38_eq F5.t39_eq F5.t15_eq F5.t16_eq F5.t51_eq F5.t12_eq F5.t11_eq F5.t7_eq F5.t4_eq
/-- Bytes are written, file 1. -/
theorem bytes_t30_1 {θ : Tag (F5.t30, Q, e, w)} {bd : Nat} {d : List UInt8} [Gives A Tabs] (hx : x.length ≤ 65536) (hy : y.length ≤ 65536) (hd : d.length = n) (h0 : 0 < n) (h1 : at_ % 256 + n ≤ 256) (h2 : at_ + n ≤ 65536)
    (hb : BR [] a len c b K L i 1 at_ n e) (e16 : e.ρ 16 = .slice (some ⟨bd, 0, none⟩) n n)
    (h : St w0 (StoreP b 0 0 (byteS x y) * (RowO 5 1 (.slice (some ⟨bd, 0, none⟩) n n) n (d.map bv) * (KnowR v0 (knowF x) * (KnowR v1 (overF (knowF y) at_ d) * (Blk K (.cells #[v0, v1] 55 (0, 0)) * (Blk L (.cells #[.int .i64 x.length, .int .i64 y.length] 56 (0, 0)) * NilB A)))))) w)
    (hQ : ∀ e' w', BR [] a len c b K L i 1 at_ n e' → St w0 (BytW b K L v0 v1 (x) (layF y at_ d) A) w' → Q .normal e' w') :
    cwE Tryd.prog F5.t30 Q e w θ := by
  rw [F5.t30_eq]
  obtain ⟨hd', e0, e3, e4, e9, e10, e11, e12, e13, e14, e15⟩ := id hb
  simp only [Int.cast_ofNat_Int, Nat.add_zero, Nat.reduceAdd] at e12 e15
  have hL : w.cell? ⟨L, 1, none⟩ = some (.int .i64 y.length) := (h.cl L) 1
  have hmax := lay_max (x := y) (d := d) (at_ := at_) hd
  have hne : d ≠ [] := fun hh => by rw [hh] at hd; simp at hd; omega
  have hdo := do_bytes (a := x) (b := y) (d := d) (off := at_) (k := 1) (by decide) hne (by rw [hd]; exact h1) (by rw [hd]; exact h2)
  simp only [Nat.add_zero, Nat.reduceAdd, if_true, Nat.one_ne_zero, if_false] at hdo
  simp -dsimp -implicitDefEqProofs (disch := omega) only [go_sem, reqD_of, dec_t, dec_f, wrap_i64, wrap_u32, wrap_u64, wrap_u8, hd', e0, e3, e4, e9, e10, e11, e12, e13, e14, e15, e16, hL]
  rw [hmax]
  refine h.sto (b := L) (off := 1) (by simp) rfl fun w1 h3 => ?_
  simp only [List.setIfInBounds_toArray, List.set_cons_succ, List.set_cons_zero] at h3
  simp -dsimp -implicitDefEqProofs (disch := omega) only [go_sem, reqD_of, dec_t, dec_f, wrap_i64, wrap_u32, wrap_u64, wrap_u8, hd', e0, e3, e4, e9, e10, e11, e12, e13, e14, e15, e16]
  refine onV_of (v := .agg (opL (bytesO 3 at_ d) (.slice (some ⟨bd, 0, none⟩) n n)).toArray) (by rfl) ?_
  simp -dsimp -implicitDefEqProofs (disch := omega) only [go_sem, reqD_of, dec_t, dec_f, wrap_i64, wrap_u32, wrap_u64, wrap_u8, hd', e0, e3, e4, e9, e10, e11, e12, e13, e14, e15, e16]
  haveI : Gives (RowO 5 1 (.slice (some ⟨bd, 0, none⟩) n n) n (d.map bv) * (KnowR v0 (knowF x) * (KnowR v1 (overF (knowF y) at_ d) * (Blk K (.cells #[v0, v1] 55 (0, 0)) * (Blk L (.cells #[.int .i64 x.length, .int .i64 ((layF y at_ d).length : Int)] 56 (0, 0)) * NilB A))))) (RdB (.slice (some ⟨bd, 0, none⟩) n n) (bytesO 3 at_ d).data) := ⟨by
    show Ent _ (Reads 1 _ d.length (d.map bv))
    rw [hd]
    exact (Ent.left _ _).trans (RowO.reads _ _ _ _ _)⟩
  refine (do_any (o := bytesO 3 at_ d) (vd := .slice (some ⟨bd, 0, none⟩) n n) (bytesO_in _ (by omega) (by omega)) (by show 6 < 256; decide) (by rw [byteS_next]; decide) h3).mono ?_
  rintro e' w2 ⟨h4, rfl⟩
  rw [hdo] at h4 ⊢
  simp -dsimp -implicitDefEqProofs (disch := omega) only [go_sem, reqD_of, dec_t, dec_f, wrap_i64, wrap_u32, wrap_u64, wrap_u8, hd', e0, e3, e4, e9, e10, e11, e12, e13, e14, e15, e16]
  refine hQ _ _ ?_ ?_
  · repeat first | exact hb | refine BR.put ?_ (by decide) _
  · rw [lay_know (by omega) (by omega)] at h4
    exact h4.drop2

/-- A cut, file 1. -/
theorem bytes_t39_1 {θ : Tag (F5.t39, Q, e, w)} [Gives A Tabs] (hx : x.length ≤ 65536) (hy : y.length ≤ 65536) (h2 : at_ ≤ 65536)
    (hb : BR [] a len c b K L i 1 at_ n e)
    (h : St w0 (StoreP b 0 0 (byteS x y) * (KnowR v0 (knowF x) * (KnowR v1 (overF (knowF y) at_ (List.replicate (y.length - at_) 0)) * (Blk K (.cells #[v0, v1] 55 (0, 0)) * (Blk L (.cells #[.int .i64 x.length, .int .i64 y.length] 56 (0, 0)) * NilB A))))) w)
    (hQ : ∀ e' w', BR [] a len c b K L i 1 at_ n e' → St w0 (BytW b K L v0 v1 (x) (padF y at_) A) w' → Q .normal e' w') :
    cwE Tryd.prog F5.t39 Q e w θ := by
  rw [F5.t39_eq]
  obtain ⟨hd', e0, e3, e4, e9, e10, e11, e12, e13, e14, e15⟩ := id hb
  simp only [Int.cast_ofNat_Int, Nat.add_zero, Nat.reduceAdd] at e12 e15
  have hdo := do_cut (a := x) (b := y) (off := at_) (k := 1) (by decide) h2
  simp only [Nat.add_zero, Nat.reduceAdd, if_true, Nat.one_ne_zero, if_false] at hdo
  have hpl := padF_len y at_
  simp -dsimp -implicitDefEqProofs (disch := omega) only [go_sem, reqD_of, dec_t, dec_f, wrap_i64, wrap_u32, wrap_u64, wrap_u8, hd', e0, e3, e4, e9, e10, e11, e12, e13, e14, e15]
  refine h.sto (b := L) (off := 1) (by simp) rfl fun w1 h3 => ?_
  simp only [List.setIfInBounds_toArray, List.set_cons_succ, List.set_cons_zero] at h3
  simp -dsimp -implicitDefEqProofs (disch := omega) only [go_sem, reqD_of, dec_t, dec_f, wrap_i64, wrap_u32, wrap_u64, wrap_u8, hd', e0, e3, e4, e9, e10, e11, e12, e13, e14, e15]
  refine onV_of (v := .agg (opL (cutO 3 at_) (.slice none 0 0)).toArray) (by rfl) ?_
  simp -dsimp -implicitDefEqProofs (disch := omega) only [go_sem, reqD_of, dec_t, dec_f, wrap_i64, wrap_u32, wrap_u64, wrap_u8, hd', e0, e3, e4, e9, e10, e11, e12, e13, e14, e15]
  haveI : Gives (NilB A) (RdB (.slice none 0 0) (cutO 3 at_).data) := NilB.gives A rfl
  refine (do_any (o := cutO 3 at_) (vd := .slice none 0 0) (cutO_in _ (by omega)) (by show 5 < 256; decide) (by rw [byteS_next]; decide) h3).mono ?_
  rintro e' w2 ⟨h4, rfl⟩
  rw [hdo] at h4 ⊢
  simp -dsimp -implicitDefEqProofs (disch := omega) only [go_sem, reqD_of, dec_t, dec_f, wrap_i64, wrap_u32, wrap_u64, wrap_u8, hd', e0, e3, e4, e9, e10, e11, e12, e13, e14, e15]
  refine hQ _ _ ?_ ?_
  · repeat first | exact hb | refine BR.put ?_ (by decide) _
  · rw [cut_know (by omega) (by omega)] at h4
    show St w0 (_ * (_ * (_ * (_ * (Blk L (.cells #[.int .i64 _, .int .i64 _] _ _) * _))))) w2
    rw [hpl]
    exact h4
/-- The file's length is as it is known, file 1. -/
theorem bytes_t48_1 {θ : Tag (F5.t48, Q, e, w)} (hx : x.length ≤ 65536) (hy : y.length ≤ 65536)
    (hb : BR [] a len c b K L i 1 at_ n e) (h : St w0 (BytW b K L v0 v1 x y A) w)
    (hQ : ∀ e' w', BR [] a len c b K L i 1 at_ n e' → St w0 (BytW b K L v0 v1 x y A) w' → Q .normal e' w') :
    cwE Tryd.prog F5.t48 Q e w θ := by
  rw [F5.t48_eq]
  obtain ⟨hd', e0, e3, e4, e9, e10, e11, e12, e13, e14, e15⟩ := id hb
  simp only [Int.cast_ofNat_Int, Nat.add_zero, Nat.reduceAdd] at e12 e15
  obtain ⟨q1, q2⟩ := byte_node (a := x) (b := y) (k := 1) (by decide)
  simp only [Nat.add_zero, Nat.reduceAdd, fst2, if_true, Nat.one_ne_zero, if_false] at q1 q2
  simp -dsimp -implicitDefEqProofs (disch := omega) only [go_sem, reqD_of, dec_t, dec_f, wrap_i64, wrap_u32, wrap_u64, wrap_u8, hd', e0, e3, e4, e9, e10, e11, e12, e13, e14, e15]
  refine (node_any (p := 3) h).mono ?_
  rintro e' w1 ⟨h1, rfl⟩
  rw [toldV, q1]
  simp -dsimp -implicitDefEqProofs (disch := omega) only [go_sem, reqD_of, dec_t, dec_f, wrap_i64, wrap_u32, wrap_u64, wrap_u8, hd', e0, e3, e4, e9, e10, e11, e12, e13, e14, e15]
  refine h1.new fun D w2 h2 => ?_
  simp -dsimp -implicitDefEqProofs (disch := omega) only [go_sem, reqD_of, dec_t, dec_f, wrap_i64, wrap_u32, wrap_u64, wrap_u8, hd', e0, e3, e4, e9, e10, e11, e12, e13, e14, e15]
  refine h2.stoAll (b := D) (cs := infL (toldI (byteS x y) 3)) rfl rfl (infL_cells _) fun w3 h3 => ?_
  have hD := h3.drew
  have p1 : w3.drew.cell? ⟨D, 10, none⟩ = some (.int .u64 (y.length : Int)) := by rw [← q2]; exact (hD.cl D) 10
  have p2 : w3.drew.cell? ⟨L, 1, none⟩ = some (.int .i64 (y.length : Int)) := (hD.cl L) 1
  simp -dsimp -implicitDefEqProofs (disch := omega) only [go_sem, reqD_of, dec_t, dec_f, wrap_i64, wrap_u32, wrap_u64, wrap_u8, hd', e0, e3, e4, e9, e10, e11, e12, e13, e14, e15, p1, p2]
  refine hQ _ _ ?_ hD.right
  repeat first | exact hb | refine BR.put ?_ (by decide) _

end
end
end Go.Proofs.YtijnmokpihhhcaaDoor

namespace Go.Proofs.YtijnmokpihhhcaaDoor
open Go
set_option linter.unusedVariables false
set_option linter.unusedSimpArgs false
set_option maxRecDepth 100000

section
variable {w0 w : World} {A : HP} {a : Option Addr} {c b K L : Nat} {ls : List PutD} {e : FA}
section
attribute [local go_sem] F5.t27_eq F5.t28_eq F5.t37_eq F5.t38_eq F5.t15_eq F5.t16_eq F5.t11_eq F5.t7_eq F5.t4_eq

theorem know_sub {d : Nat} {x : List UInt8} {lo k : Nat} (hx : x.length ≤ 65536) (h : lo + k ≤ 65536) :
    Ent (KnowR (.slice (some ⟨d, 0, none⟩) 65536 65536) (knowF x)) (RdB (.slice (if 65536 = lo then some ⟨d, 0, none⟩ else some ⟨d, lo, none⟩) k (65536 - lo)) (((knowF x).drop lo).take k)) := by
  have h1 := (RowO.reads 5 1 (.slice (some ⟨d, 0, none⟩) 65536 65536) 65536 ((knowF x).map bv)).trans (Reads.sub (lo := lo) (k := k) h)
  have hl := know_len hx
  rw [Nat.mul_one, Nat.mul_one, ← List.map_drop, ← List.map_take] at h1
  simp only [Option.map_some, add_lit, Nat.zero_add] at h1
  have hk : (((knowF x).drop lo).take k).length = k := by simp [hl]; omega
  show Ent _ (Reads 1 _ (((knowF x).drop lo).take k).length _)
  rw [hk]
  exact h1
theorem bytes_t51 {d0 d1 : Nat} {x y : List UInt8} (hx : x.length ≤ 65536) (hy : y.length ≤ 65536) (hd : e.ds = []) (e3 : e.ρ 3 = .bool true) (e4 : e.ρ 4 = .pointer (some ⟨b, 0, none⟩)) (e9 : e.ρ 9 = .pointer (some ⟨K, 0, none⟩)) (e10 : e.ρ 10 = .pointer (some ⟨L, 0, none⟩))
    (h : St w0 (BytW b K L (.slice (some ⟨d0, 0, none⟩) 65536 65536) (.slice (some ⟨d1, 0, none⟩) 65536 65536) x y A) w) :
    cwE Tryd.prog F5.t51 (fnP Tryd.prog #[.tmp 2] fun e w' => St w0 A w' ∧ e = .returned (.bool true)) e w := by
  rw [F5.t51_eq]
  simp -dsimp -implicitDefEqProofs (disch := omega) only [go_sem, reqD_of, dec_t, dec_f, wrap_i64, wrap_u32, wrap_u64, wrap_u8, hd, e3, e4, e9, e10]
  refine (sread_any (p := 2) (off := 0) (k := 65536) h (by decide) (by decide)).mono ?_
  rintro e' w1 ⟨v1, h1, rfl⟩
  have q1 : readS (byteS x y) 2 0 65536 = x := by
    rw [byte_read (a := x) (b := y) (k := 0) (by decide) (by decide)]
    exact List.take_of_length_le (by simpa [fst2] using hx)
  rw [q1] at h1
  obtain ⟨a1, c1, rfl, _⟩ := h1.rowForm v1
  simp -dsimp -implicitDefEqProofs (disch := omega) only [go_sem, reqD_of, dec_t, dec_f, wrap_i64, wrap_u32, wrap_u64, wrap_u8, hd, e3, e4, e9, e10]
  refine (sread_any (p := 3) (off := 0) (k := 70000) h1.sw2 (by decide) (by decide)).mono ?_
  rintro e' w2 ⟨v2, h2, rfl⟩
  have q2 : readS (byteS x y) 3 0 70000 = y := by
    rw [byte_read (a := x) (b := y) (k := 1) (by decide) (by decide)]
    exact List.take_of_length_le (by show y.length ≤ 70000; omega)
  rw [q2] at h2
  obtain ⟨a2, c2, rfl, _⟩ := h2.rowForm v2
  have h3 := h2.drew
  have wh : ∀ {d : Nat} {z : List UInt8}, z.length ≤ 65536 → Ent (KnowR (.slice (some ⟨d, 0, none⟩) 65536 65536) (knowF z)) (RdB (.slice (some ⟨d, 0, none⟩) z.length 65536) z) := fun {d z} hz => by
    have h1 := know_sub (d := d) (x := z) (lo := 0) (k := z.length) hz (by omega)
    have h2 : ((knowF z).drop 0).take z.length = z := by
      rw [List.drop_zero]
      unfold knowF
      rw [List.take_append_of_le_length (Nat.le_refl _), List.take_length]
    rw [h2, if_neg (by decide), Nat.sub_zero] at h1
    exact h1
  have k0 : w2.drew.cell? ⟨K, 0, none⟩ = some (.slice (some ⟨d0, 0, none⟩) 65536 65536) := (h3.cl K) 0
  have k1 : w2.drew.cell? ⟨K, 1, none⟩ = some (.slice (some ⟨d1, 0, none⟩) 65536 65536) := (h3.cl K) 1
  have l0 : w2.drew.cell? ⟨L, 0, none⟩ = some (.int .i64 (x.length : Int)) := (h3.cl L) 0
  have l1 : w2.drew.cell? ⟨L, 1, none⟩ = some (.int .i64 (y.length : Int)) := (h3.cl L) 1
  simp -dsimp -implicitDefEqProofs (disch := omega) only [go_sem, reqD_of, dec_t, dec_f, wrap_i64, wrap_u32, wrap_u64, wrap_u8, hd, e3, e4, e9, e10, k0, k1, l0, l1]
  refine St.str (bs := x) h3 ((Ent.right _ _).trans ((Ent.right _ _).trans ((Ent.left _ _).trans (RowO.reads _ _ _ _ _)))) Tryd.underlying51 Tryd.underlying5 Tryd.underlying9 ?_
  simp -dsimp -implicitDefEqProofs (disch := omega) only [go_sem, reqD_of, dec_t, dec_f, wrap_i64, wrap_u32, wrap_u64, wrap_u8, hd, e3, e4, e9, e10, k0, k1, l0, l1]
  refine St.str (bs := x) h3 ((Ent.right _ _).trans ((Ent.right _ _).trans ((Ent.right _ _).trans ((Ent.left _ _).trans (wh hx))))) Tryd.underlying51 Tryd.underlying5 Tryd.underlying9 ?_
  simp -dsimp -implicitDefEqProofs (disch := omega) only [go_sem, reqD_of, dec_t, dec_f, wrap_i64, wrap_u32, wrap_u64, wrap_u8, hd, e3, e4, e9, e10, k0, k1, l0, l1]
  refine St.str (bs := y) h3 ((Ent.left _ _).trans (RowO.reads _ _ _ _ _)) Tryd.underlying51 Tryd.underlying5 Tryd.underlying9 ?_
  simp -dsimp -implicitDefEqProofs (disch := omega) only [go_sem, reqD_of, dec_t, dec_f, wrap_i64, wrap_u32, wrap_u64, wrap_u8, hd, e3, e4, e9, e10, k0, k1, l0, l1]
  refine St.str (bs := y) h3 ((Ent.right _ _).trans ((Ent.right _ _).trans ((Ent.right _ _).trans ((Ent.right _ _).trans ((Ent.left _ _).trans (wh hy)))))) Tryd.underlying51 Tryd.underlying5 Tryd.underlying9 ?_
  simp -dsimp -implicitDefEqProofs (disch := omega) only [go_sem, reqD_of, dec_t, dec_f, wrap_i64, wrap_u32, wrap_u64, wrap_u8, hd, e3, e4, e9, e10, k0, k1, l0, l1]
  exact h3.right.right.right.right.right.right.right.right
theorem zero_know : (List.replicate 65536 (Value.int .u8 0)) = (knowF []).map bv := by
  rw [know_nil, List.map_replicate]; rfl
theorem bytes_t12 [Gives A Tabs] {d0 d1 : Nat} (hr : Ent A (Reads 5 (.slice a ls.length c) ls.length (ls.flatMap putC))) (hok : ∀ p ∈ ls, PutOk p) (hlen : ls.length ≤ 1000000000000 * 4)
    (hd : e.ds = []) (e0 : e.ρ 0 = .slice a ls.length c) (e3 : e.ρ 3 = .bool true) (e4 : e.ρ 4 = .pointer (some ⟨b, 0, none⟩)) (e9 : e.ρ 9 = .pointer (some ⟨K, 0, none⟩)) (hbig : ls.length ≤ 8388608)
    (h : St w0 (StoreP b 0 0 (byteS [] []) * (KnowR (.slice (some ⟨d0, 0, none⟩) 65536 65536) (knowF []) * (KnowR (.slice (some ⟨d1, 0, none⟩) 65536 65536) (knowF []) * (Blk K (.cells #[.slice (some ⟨d0, 0, none⟩) 65536 65536, .slice (some ⟨d1, 0, none⟩) 65536 65536] 55 (0, 0)) * NilB A)))) w) :
    cwE Tryd.prog F5.t12 (fnP Tryd.prog #[.tmp 2] fun e w' => St w0 A w' ∧ e = .returned (.bool true)) e w := by
  rw [F5.t12_eq]
  simp -dsimp -implicitDefEqProofs (disch := omega) only [go_sem, reqD_of, dec_t, dec_f, wrap_i64, wrap_u32, wrap_u64, wrap_u8, hd, e0, e3, e4, e9]
  refine onV_of (v := .agg #[.int .i64 0, .int .i64 0]) (by kernel_rfl) ?_
  simp -dsimp -implicitDefEqProofs (disch := omega) only [go_sem, reqD_of, dec_t, dec_f, wrap_i64, wrap_u32, wrap_u64, wrap_u8, hd, e0, e3, e4, e9]
  refine h.new fun L w1 h1 => ?_
  simp -dsimp -implicitDefEqProofs (disch := omega) only [go_sem, reqD_of, dec_t, dec_f, wrap_i64, wrap_u32, wrap_u64, wrap_u8, hd, e0, e3, e4, e9]
  refine h1.stoAll (b := L) (cs := [.int .i64 0, .int .i64 0]) rfl rfl (by intro v hv; simp only [List.mem_cons, List.not_mem_nil, or_false] at hv; rcases hv with rfl | rfl <;> rfl) fun w2 h2 => ?_
  simp -dsimp -implicitDefEqProofs (disch := omega) only [go_sem, reqD_of, dec_t, dec_f, wrap_i64, wrap_u32, wrap_u64, wrap_u8, hd, e0, e3, e4, e9]
  have h3 : St w0 (BytW b K L (.slice (some ⟨d0, 0, none⟩) 65536 65536) (.slice (some ⟨d1, 0, none⟩) 65536 65536) [] [] A) w2 := h2.ac (show _ = StoreP b 0 0 (byteS [] []) * (KnowR (.slice (some ⟨d0, 0, none⟩) 65536 65536) (knowF []) * (KnowR (.slice (some ⟨d1, 0, none⟩) 65536 65536) (knowF []) * (Blk K (.cells #[.slice (some ⟨d0, 0, none⟩) 65536 65536, .slice (some ⟨d1, 0, none⟩) 65536 65536] 55 (0, 0)) * (Blk L (.cells #[.int .i64 0, .int .i64 0] 56 (0, 0)) * NilB A)))) by simp only [KnowR]; ac_rfl)
  refine loop_intro (fun e w' => e.ds = [] ∧ e.ρ 0 = .slice a ls.length c ∧ e.ρ 3 = .bool true ∧ e.ρ 4 = .pointer (some ⟨b, 0, none⟩) ∧ e.ρ 9 = .pointer (some ⟨K, 0, none⟩) ∧ e.ρ 10 = .pointer (some ⟨L, 0, none⟩) ∧ ∃ (i : Nat) (x y : List UInt8), i ≤ ls.length ∧ x.length ≤ 65536 ∧ y.length ≤ 65536 ∧ e.ρ 11 = .int .i64 i ∧ St w0 (BytW b K L (.slice (some ⟨d0, 0, none⟩) 65536 65536) (.slice (some ⟨d1, 0, none⟩) 65536 65536) x y A) w')
    (fun e _ => match e.ρ 11 with | .int _ k => (ls.length - k).toNat | _ => 0) ?_ ?_
  · exact ⟨by simp -dsimp -implicitDefEqProofs only [go_sem, hd], by simp -dsimp -implicitDefEqProofs only [go_sem, e0], by simp -dsimp -implicitDefEqProofs only [go_sem, e3], by simp -dsimp -implicitDefEqProofs only [go_sem, e4], by simp -dsimp -implicitDefEqProofs only [go_sem, e9], by simp -dsimp -implicitDefEqProofs only [go_sem], 0, [], [], by omega, by simp, by simp, by simp -dsimp -implicitDefEqProofs only [go_sem], h3⟩
  clear h h1 h2 h3 hd e0 e3 e4 e9
  rintro e w ⟨hd, e0, e3, e4, e9, e10, i, x, y, hi, hx, hy, e11, h⟩
  by_cases hlt : (i : Int) < ls.length
  case neg =>
    simp -dsimp -implicitDefEqProofs (disch := omega) only [go_sem, reqD_of, dec_t, dec_f, wrap_i64, wrap_u32, wrap_u64, wrap_u8, hd, e0, e3, e4, e9, e10, e11, hlt]
    exact bytes_t51 (b := b) (K := K) (L := L) (d0 := d0) (d1 := d1) (x := x) (y := y) hx hy (by simp -dsimp -implicitDefEqProofs only [go_sem, hd]) (by simp -dsimp -implicitDefEqProofs only [go_sem, e3]) (by simp -dsimp -implicitDefEqProofs only [go_sem, e4]) (by simp -dsimp -implicitDefEqProofs only [go_sem, e9]) (by simp -dsimp -implicitDefEqProofs only [go_sem, e10]) h
  have hil : i < ls.length := by omega
  obtain ⟨p, hp⟩ : ∃ p, p = ls[i] := ⟨_, rfl⟩
  have pok := hok _ (List.getElem_mem hil)
  rw [← hp] at pok
  have cellsAt : ∀ {w : World}, St w0 A w → ∃ g o, a = some ⟨g, o, none⟩ ∧ ∀ j, j < 5 → w.cell? ⟨g, o + i * 5 + j, none⟩ = (putC p)[j]? := fun h => by
    obtain ⟨_, a', c', hv, _, hat⟩ := St.rowsAt putC_len (by decide) (h.ent hr)
    simp only [Value.slice.injEq, true_and] at hv
    obtain ⟨rfl, rfl⟩ := hv
    obtain ⟨g, o, ha, _, hc⟩ := hat i hil
    exact ⟨g, o, ha, by rw [hp]; exact hc⟩
  have toA : ∀ {x y : List UInt8}, Ent (BytW b K L (.slice (some ⟨d0, 0, none⟩) 65536 65536) (.slice (some ⟨d1, 0, none⟩) 65536 65536) x y A) A := fun {x y} => (Ent.right _ _).trans ((Ent.right _ _).trans ((Ent.right _ _).trans ((Ent.right _ _).trans ((Ent.right _ _).trans (Ent.right _ _)))))
  obtain ⟨g, o, rfl, hc⟩ := cellsAt (h.ent toA)
  have again : ∀ {w : World} {x y : List UInt8}, St w0 (BytW b K L (.slice (some ⟨d0, 0, none⟩) 65536 65536) (.slice (some ⟨d1, 0, none⟩) 65536 65536) x y A) w → ∀ j, j < 5 → w.cell? ⟨g, o + i * 5 + j, none⟩ = (putC p)[j]? := fun h => by
    obtain ⟨g', o', e1, e2⟩ := cellsAt (h.ent toA)
    simp only [Option.some.injEq, Addr.mk.injEq, and_true] at e1
    obtain ⟨rfl, rfl⟩ := e1
    exact e2
  have q1 : w.cell? ⟨g, o + i * 5 + 1, none⟩ = some (.int .i64 p.file) := again h 1 (by decide)
  simp -dsimp -implicitDefEqProofs (disch := omega) only [go_sem, reqD_of, dec_t, dec_f, wrap_i64, wrap_u32, wrap_u64, wrap_u8, hd, e0, e3, e4, e9, e10, e11, hlt, q1]
  refine (pick_any (c := p.file) (n := 2) h pok.file (by decide)).mono ?_
  rintro e' w1 ⟨h1, rfl⟩
  obtain ⟨k, hk⟩ : ∃ k, k = pickF p.file 2 := ⟨_, rfl⟩
  have hk2 : k < 2 := by rw [hk]; exact pickF_lt (by decide)
  rw [← hk]
  have q2 : w1.cell? ⟨g, o + i * 5 + 2, none⟩ = some (.int .i64 p.at_) := again h1 2 (by decide)
  simp -dsimp -implicitDefEqProofs (disch := omega) only [go_sem, reqD_of, dec_t, dec_f, wrap_i64, wrap_u32, wrap_u64, wrap_u8, hd, e0, e3, e4, e9, e10, e11, q2]
  refine (pick_any (c := p.at_) (n := 65537) h1 pok.at_ (by decide)).mono ?_
  rintro e' w2 ⟨h2, rfl⟩
  obtain ⟨at_, hat⟩ : ∃ k, k = pickF p.at_ 65537 := ⟨_, rfl⟩
  have hat2 : at_ < 65537 := by rw [hat]; exact pickF_lt (by decide)
  rw [← hat]
  have q3 : w2.cell? ⟨g, o + i * 5 + 3, none⟩ = some (.int .i64 p.n) := again h2 3 (by decide)
  simp -dsimp -implicitDefEqProofs (disch := omega) only [go_sem, reqD_of, dec_t, dec_f, wrap_i64, wrap_u32, wrap_u64, wrap_u8, hd, e0, e3, e4, e9, e10, e11, q3]
  refine (pick_any (c := p.n) (n := 256) h2 pok.n (by decide)).mono ?_
  rintro e' w3 ⟨h3, rfl⟩
  obtain ⟨n, hn⟩ : ∃ k, k = pickF p.n 256 := ⟨_, rfl⟩
  have hn2 : n < 256 := by rw [hn]; exact pickF_lt (by decide)
  rw [← hn]
  have q0 : w3.cell? ⟨g, o + i * 5, none⟩ = some (.int .i64 p.kind) := again h3 0 (by decide)
  have q2 : w3.cell? ⟨g, o + i * 5 + 2, none⟩ = some (.int .i64 p.at_) := again h3 2 (by decide)
  have hcast : ((2 : Int) + (k : Int)) = ((2 + k : Nat) : Int) := by omega
  rcases (by omega : k = 0 ∨ k = 1) with hk0 | hk0
  · subst hk0
    by_cases k1 : p.kind = 1
    · simp -dsimp -implicitDefEqProofs (disch := omega) only [go_sem, reqD_of, dec_t, dec_f, wrap_i64, wrap_u32, wrap_u64, wrap_u8, hd, e0, e3, e4, e9, e10, e11, q0, q2, k1]
      refine (pick_any (c := p.at_) (n := 65536) h3 pok.at_ (by decide)).mono ?_
      rintro e' w4 ⟨h4, rfl⟩
      obtain ⟨at2, ha2⟩ : ∃ k, k = pickF p.at_ 65536 := ⟨_, rfl⟩
      have hat3 : at2 < 65536 := by rw [ha2]; exact pickF_lt (by decide)
      rw [← ha2]
      have hrem : (at2 : Int).tmod 256 = ((at2 % 256 : Nat) : Int) := (Int.ofNat_tmod at2 256).symm
      obtain ⟨m, hm⟩ : ∃ m, m = min (1 + n) (256 - at2 % 256) := ⟨_, rfl⟩
      have hmin : (if (256 : Int) - ((at2 % 256 : Nat) : Int) < 1 + (n : Int) then (256 : Int) - ((at2 % 256 : Nat) : Int) else 1 + (n : Int)) = (m : Int) := by split <;> omega
      simp -dsimp -implicitDefEqProofs (disch := omega) only [go_sem, reqD_of, dec_t, dec_f, wrap_i64, wrap_u32, wrap_u64, wrap_u8, hd, e0, e3, e4, e9, e10, e11, hrem, hmin]
      refine St.make1 h4 (n := m) (c := m) rowTy_bytes (Nat.le_refl _) (by omega) (by omega) fun bd w5 h5 => ?_
      have h5' : St w0 (RowO 5 1 (.slice (some ⟨bd, 0, none⟩) m m) m ((List.replicate m (0 : UInt8)).map bv) * BytW b K L (.slice (some ⟨d0, 0, none⟩) 65536 65536) (.slice (some ⟨d1, 0, none⟩) 65536 65536) x y A) w5 := by rw [List.map_replicate]; exact h5
      simp -dsimp -implicitDefEqProofs (disch := omega) only [go_sem, reqD_of, dec_t, dec_f, wrap_i64, wrap_u32, wrap_u64, wrap_u8, hd, e0, e3, e4, e9, e10, e11]
      refine bytes_loop3 (ls := ls) (i := i) (k := 0) (at_ := at2) (n := m) (a := some ⟨g, o, none⟩) (c := c) (b := b) (K := K) (L := L) (ds := []) (bd := bd) (gk := d0) (ok := 0) (ck := 65536) (kc := #[.slice (some ⟨d0, 0, none⟩) 65536 65536, .slice (some ⟨d1, 0, none⟩) 65536 65536]) (u := knowF x) (F := StoreP b 0 0 (byteS x y) * (KnowR (.slice (some ⟨d1, 0, none⟩) 65536 65536) (knowF y) * (Blk L (.cells #[.int .i64 x.length, .int .i64 y.length] 56 (0, 0)) * NilB A))) ((Ent.right _ _).trans ((Ent.right _ _).trans ((Ent.right _ _).trans ((Ent.right _ _).trans hr)))) hil (by rw [← hp]; exact pok.v) rfl (by decide) (know_len (by omega)) (by omega) (by omega) ⟨by simp -dsimp -implicitDefEqProofs only [go_sem, hd], by simp -dsimp -implicitDefEqProofs only [go_sem, e0], by simp -dsimp -implicitDefEqProofs only [go_sem, e3], by simp -dsimp -implicitDefEqProofs only [go_sem, e4], by simp -dsimp -implicitDefEqProofs only [go_sem, e9], by simp -dsimp -implicitDefEqProofs only [go_sem, e10], by simp -dsimp -implicitDefEqProofs only [go_sem, e11], by simp -dsimp -implicitDefEqProofs only [go_sem], by simp -dsimp -implicitDefEqProofs only [go_sem], by simp -dsimp -implicitDefEqProofs only [go_sem], by simp -dsimp -implicitDefEqProofs only [go_sem]⟩ (by simp -dsimp -implicitDefEqProofs only [go_sem]) (by simp -dsimp -implicitDefEqProofs only [go_sem]) (h5'.ac (by simp only [BytW, KnowR]; ac_rfl)) ?_
      rintro e' w6 hb6 e16 h6
      simp -dsimp -implicitDefEqProofs (disch := omega) only [go_sem, reqD_of, dec_t, dec_f, wrap_i64, wrap_u32, wrap_u64, wrap_u8]
      refine bytes_t30_0 (x := x) (y := y) (v0 := (.slice (some ⟨d0, 0, none⟩) 65536 65536)) (v1 := (.slice (some ⟨d1, 0, none⟩) 65536 65536)) (bd := bd) (d := dataF ls[i].v m) (n := m) (at_ := at2) hx hy (data_len _ _) (by omega) (by omega) (by omega) hb6 e16 (h6.ac (by simp only [KnowR]; ac_rfl)) ?_
      rintro e'' w7 hb7 h7
      simp -dsimp -implicitDefEqProofs (disch := omega) only [go_sem, reqD_of, dec_t, dec_f, wrap_i64, wrap_u32, wrap_u64, wrap_u8]
      have hl7 : (layF x at2 (dataF ls[i].v m)).length ≤ 65536 := by rw [layF_len, data_len]; omega
      refine bytes_t48_0 (x := (layF x at2 (dataF ls[i].v m))) (y := y) hl7 hy hb7 h7 ?_
      rintro e3 w8 ⟨f1, f2, f3, f4, f5, f6, f7, f8, f9, f10, f11⟩ h8
      simp -dsimp -implicitDefEqProofs (disch := omega) only [go_sem, reqD_of, dec_t, dec_f, wrap_i64, wrap_u32, wrap_u64, wrap_u8, f1, f2, f3, f4, f5, f6, f7, e11]
      exact ⟨⟨i + 1, (layF x at2 (dataF ls[i].v m)), y, by omega, hl7, hy, by omega, h8⟩, by omega⟩
    by_cases k2 : p.kind = 2
    · simp -dsimp -implicitDefEqProofs (disch := omega) only [go_sem, reqD_of, dec_t, dec_f, wrap_i64, wrap_u32, wrap_u64, wrap_u8, hd, e0, e3, e4, e9, e10, e11, q0, k1, k2]
      refine bytes_loop5 (len := ls.length) (i := i) (k := 0) (at_ := at_) (n := 1 + n) (a := some ⟨g, o, none⟩) (c := c) (b := b) (K := K) (L := L) (ds := []) (gk := d0) (ok := 0) (ck := 65536) (kc := #[.slice (some ⟨d0, 0, none⟩) 65536 65536, .slice (some ⟨d1, 0, none⟩) 65536 65536]) (lc := #[.int .i64 x.length, .int .i64 y.length]) (ln := x.length) (u := knowF x) (F := StoreP b 0 0 (byteS x y) * (KnowR (.slice (some ⟨d1, 0, none⟩) 65536 65536) (knowF y) * NilB A)) rfl rfl (by decide) (know_len (by omega)) (by omega) (by omega) ⟨by simp -dsimp -implicitDefEqProofs only [go_sem, hd], by simp -dsimp -implicitDefEqProofs only [go_sem, e0], by simp -dsimp -implicitDefEqProofs only [go_sem, e3], by simp -dsimp -implicitDefEqProofs only [go_sem, e4], by simp -dsimp -implicitDefEqProofs only [go_sem, e9], by simp -dsimp -implicitDefEqProofs only [go_sem, e10], by simp -dsimp -implicitDefEqProofs only [go_sem, e11], by simp -dsimp -implicitDefEqProofs only [go_sem], by simp -dsimp -implicitDefEqProofs only [go_sem], by simp -dsimp -implicitDefEqProofs only [go_sem]; omega, by simp -dsimp -implicitDefEqProofs only [go_sem]⟩ (by simp -dsimp -implicitDefEqProofs only [go_sem]) (h3.ac (by simp only [BytW, KnowR]; ac_rfl)) ?_
      rintro e' w6 hb6 h6
      simp -dsimp -implicitDefEqProofs (disch := omega) only [go_sem, reqD_of, dec_t, dec_f, wrap_i64, wrap_u32, wrap_u64, wrap_u8]
      refine bytes_t39_0 (x := x) (y := y) (v0 := (.slice (some ⟨d0, 0, none⟩) 65536 65536)) (v1 := (.slice (some ⟨d1, 0, none⟩) 65536 65536)) (n := 1 + n) (at_ := at_) hx hy (by omega) hb6 (h6.ac (by simp only [KnowR]; ac_rfl)) ?_
      rintro e'' w7 hb7 h7
      simp -dsimp -implicitDefEqProofs (disch := omega) only [go_sem, reqD_of, dec_t, dec_f, wrap_i64, wrap_u32, wrap_u64, wrap_u8]
      have hl7 : (padF x at_).length ≤ 65536 := by rw [padF_len]; omega
      refine bytes_t48_0 (x := (padF x at_)) (y := y) hl7 hy hb7 h7 ?_
      rintro e3 w8 ⟨f1, f2, f3, f4, f5, f6, f7, f8, f9, f10, f11⟩ h8
      simp -dsimp -implicitDefEqProofs (disch := omega) only [go_sem, reqD_of, dec_t, dec_f, wrap_i64, wrap_u32, wrap_u64, wrap_u8, f1, f2, f3, f4, f5, f6, f7, e11]
      exact ⟨⟨i + 1, (padF x at_), y, by omega, hl7, hy, by omega, h8⟩, by omega⟩
    have hb7 : ∀ {e : FA}, True := fun {_} => trivial
    by_cases k3 : p.kind = 3
    · have hL : w3.cell? ⟨L, 0, none⟩ = some (.int .i64 (x.length : Int)) := (h3.cl L) 0
      obtain ⟨E, hE⟩ : ∃ E, E = max at_ (min (at_ + 16 * (1 + n)) x.length) := ⟨_, rfl⟩
      have hend : (if (at_ : Int) < (if (x.length : Int) < (at_ : Int) + 16 * (1 + (n : Int)) then (x.length : Int) else (at_ : Int) + 16 * (1 + (n : Int))) then (if (x.length : Int) < (at_ : Int) + 16 * (1 + (n : Int)) then (x.length : Int) else (at_ : Int) + 16 * (1 + (n : Int))) else (at_ : Int)) = (E : Int) := by
        split <;> split <;> omega
      simp -dsimp -implicitDefEqProofs (disch := omega) only [go_sem, reqD_of, dec_t, dec_f, wrap_i64, wrap_u32, wrap_u64, wrap_u8, hd, e0, e3, e4, e9, e10, e11, q0, k1, k2, k3, hL, hend]
      refine (sread_any (p := 2) (off := at_) (k := 16 * (1 + (n : Int))) h3 (by omega) (by omega)).mono ?_
      rintro e' w4 ⟨v4, h4, rfl⟩
      rw [byte_read (a := x) (b := y) (k := 0) (by decide) (by omega)] at h4
      rw [show (16 * (1 + (n : Int))).toNat = 16 * (1 + n) by omega] at h4
      have h4 : St w0 (RowBy v4 ((x.drop at_).take (16 * (1 + n))) * BytW b K L (.slice (some ⟨d0, 0, none⟩) 65536 65536) (.slice (some ⟨d1, 0, none⟩) 65536 65536) x y A) w4 := h4
      obtain ⟨a4, c4, rfl, _⟩ := h4.rowForm v4
      have h4d := h4.drew
      have hK : w4.drew.cell? ⟨K, 0, none⟩ = some (.slice (some ⟨d0, 0, none⟩) 65536 65536) := (h4d.cl K) 0
      simp -dsimp -implicitDefEqProofs (disch := omega) only [go_sem, reqD_of, dec_t, dec_f, wrap_i64, wrap_u32, wrap_u64, wrap_u8, hd, e0, e3, e4, e9, e10, e11]
      refine St.str (bs := (x.drop at_).take (16 * (1 + n))) h4d ((Ent.left _ _).trans (RowO.reads _ _ _ _ _)) Tryd.underlying51 Tryd.underlying5 Tryd.underlying9 ?_
      simp -dsimp -implicitDefEqProofs (disch := omega) only [go_sem, reqD_of, dec_t, dec_f, wrap_i64, wrap_u32, wrap_u64, wrap_u8, hd, e0, e3, e4, e9, e10, e11, hK]
      have hsub := know_sub (d := d0) (x := x) (lo := at_) (k := E - at_) (by omega) (by omega)
      rw [hE, know_read (by omega) (by omega), ← hE] at hsub
      refine St.str (bs := (x.drop at_).take (16 * (1 + n))) h4d (((Ent.right _ _).trans ((Ent.right _ _).trans ((Ent.left _ _)))).trans hsub) Tryd.underlying51 Tryd.underlying5 Tryd.underlying9 ?_
      simp -dsimp -implicitDefEqProofs (disch := omega) only [go_sem, reqD_of, dec_t, dec_f, wrap_i64, wrap_u32, wrap_u64, wrap_u8, hd, e0, e3, e4, e9, e10, e11]
      have h7 := h4d.right
      refine bytes_t48_0 (a := some ⟨g, o, none⟩) (len := ls.length) (c := c) (i := i) (at_ := at_) (n := 1 + n) (x := x) (y := y) hx hy ⟨by simp -dsimp -implicitDefEqProofs only [go_sem, hd], by simp -dsimp -implicitDefEqProofs only [go_sem, e0], by simp -dsimp -implicitDefEqProofs only [go_sem, e3], by simp -dsimp -implicitDefEqProofs only [go_sem, e4], by simp -dsimp -implicitDefEqProofs only [go_sem, e9], by simp -dsimp -implicitDefEqProofs only [go_sem, e10], by simp -dsimp -implicitDefEqProofs only [go_sem, e11], by simp -dsimp -implicitDefEqProofs only [go_sem], by simp -dsimp -implicitDefEqProofs only [go_sem], by simp -dsimp -implicitDefEqProofs only [go_sem]; omega, by simp -dsimp -implicitDefEqProofs only [go_sem]⟩ h7 ?_
      rintro e3 w8 ⟨f1, f2, f3, f4, f5, f6, f7, f8, f9, f10, f11⟩ h8
      simp -dsimp -implicitDefEqProofs (disch := omega) only [go_sem, reqD_of, dec_t, dec_f, wrap_i64, wrap_u32, wrap_u64, wrap_u8, f1, f2, f3, f4, f5, f6, f7, e11]
      exact ⟨⟨i + 1, x, y, by omega, hx, hy, by omega, h8⟩, by omega⟩
    · simp -dsimp -implicitDefEqProofs (disch := omega) only [go_sem, reqD_of, dec_t, dec_f, wrap_i64, wrap_u32, wrap_u64, wrap_u8, hd, e0, e3, e4, e9, e10, e11, q0, k1, k2, k3]
      have h7 := h3
      refine bytes_t48_0 (a := some ⟨g, o, none⟩) (len := ls.length) (c := c) (i := i) (at_ := at_) (n := 1 + n) (x := x) (y := y) hx hy ⟨by simp -dsimp -implicitDefEqProofs only [go_sem, hd], by simp -dsimp -implicitDefEqProofs only [go_sem, e0], by simp -dsimp -implicitDefEqProofs only [go_sem, e3], by simp -dsimp -implicitDefEqProofs only [go_sem, e4], by simp -dsimp -implicitDefEqProofs only [go_sem, e9], by simp -dsimp -implicitDefEqProofs only [go_sem, e10], by simp -dsimp -implicitDefEqProofs only [go_sem, e11], by simp -dsimp -implicitDefEqProofs only [go_sem], by simp -dsimp -implicitDefEqProofs only [go_sem], by simp -dsimp -implicitDefEqProofs only [go_sem]; omega, by simp -dsimp -implicitDefEqProofs only [go_sem]⟩ h7 ?_
      rintro e3 w8 ⟨f1, f2, f3, f4, f5, f6, f7, f8, f9, f10, f11⟩ h8
      simp -dsimp -implicitDefEqProofs (disch := omega) only [go_sem, reqD_of, dec_t, dec_f, wrap_i64, wrap_u32, wrap_u64, wrap_u8, f1, f2, f3, f4, f5, f6, f7, e11]
      exact ⟨⟨i + 1, x, y, by omega, hx, hy, by omega, h8⟩, by omega⟩
  · subst hk0
    by_cases k1 : p.kind = 1
    · simp -dsimp -implicitDefEqProofs (disch := omega) only [go_sem, reqD_of, dec_t, dec_f, wrap_i64, wrap_u32, wrap_u64, wrap_u8, hd, e0, e3, e4, e9, e10, e11, q0, q2, k1]
      refine (pick_any (c := p.at_) (n := 65536) h3 pok.at_ (by decide)).mono ?_
      rintro e' w4 ⟨h4, rfl⟩
      obtain ⟨at2, ha2⟩ : ∃ k, k = pickF p.at_ 65536 := ⟨_, rfl⟩
      have hat3 : at2 < 65536 := by rw [ha2]; exact pickF_lt (by decide)
      rw [← ha2]
      have hrem : (at2 : Int).tmod 256 = ((at2 % 256 : Nat) : Int) := (Int.ofNat_tmod at2 256).symm
      obtain ⟨m, hm⟩ : ∃ m, m = min (1 + n) (256 - at2 % 256) := ⟨_, rfl⟩
      have hmin : (if (256 : Int) - ((at2 % 256 : Nat) : Int) < 1 + (n : Int) then (256 : Int) - ((at2 % 256 : Nat) : Int) else 1 + (n : Int)) = (m : Int) := by split <;> omega
      simp -dsimp -implicitDefEqProofs (disch := omega) only [go_sem, reqD_of, dec_t, dec_f, wrap_i64, wrap_u32, wrap_u64, wrap_u8, hd, e0, e3, e4, e9, e10, e11, hrem, hmin]
      refine St.make1 h4 (n := m) (c := m) rowTy_bytes (Nat.le_refl _) (by omega) (by omega) fun bd w5 h5 => ?_
      have h5' : St w0 (RowO 5 1 (.slice (some ⟨bd, 0, none⟩) m m) m ((List.replicate m (0 : UInt8)).map bv) * BytW b K L (.slice (some ⟨d0, 0, none⟩) 65536 65536) (.slice (some ⟨d1, 0, none⟩) 65536 65536) x y A) w5 := by rw [List.map_replicate]; exact h5
      simp -dsimp -implicitDefEqProofs (disch := omega) only [go_sem, reqD_of, dec_t, dec_f, wrap_i64, wrap_u32, wrap_u64, wrap_u8, hd, e0, e3, e4, e9, e10, e11]
      refine bytes_loop3 (ls := ls) (i := i) (k := 1) (at_ := at2) (n := m) (a := some ⟨g, o, none⟩) (c := c) (b := b) (K := K) (L := L) (ds := []) (bd := bd) (gk := d1) (ok := 0) (ck := 65536) (kc := #[.slice (some ⟨d0, 0, none⟩) 65536 65536, .slice (some ⟨d1, 0, none⟩) 65536 65536]) (u := knowF y) (F := StoreP b 0 0 (byteS x y) * (KnowR (.slice (some ⟨d0, 0, none⟩) 65536 65536) (knowF x) * (Blk L (.cells #[.int .i64 x.length, .int .i64 y.length] 56 (0, 0)) * NilB A))) ((Ent.right _ _).trans ((Ent.right _ _).trans ((Ent.right _ _).trans ((Ent.right _ _).trans hr)))) hil (by rw [← hp]; exact pok.v) rfl (by decide) (know_len (by omega)) (by omega) (by omega) ⟨by simp -dsimp -implicitDefEqProofs only [go_sem, hd], by simp -dsimp -implicitDefEqProofs only [go_sem, e0], by simp -dsimp -implicitDefEqProofs only [go_sem, e3], by simp -dsimp -implicitDefEqProofs only [go_sem, e4], by simp -dsimp -implicitDefEqProofs only [go_sem, e9], by simp -dsimp -implicitDefEqProofs only [go_sem, e10], by simp -dsimp -implicitDefEqProofs only [go_sem, e11], by simp -dsimp -implicitDefEqProofs only [go_sem], by simp -dsimp -implicitDefEqProofs only [go_sem], by simp -dsimp -implicitDefEqProofs only [go_sem], by simp -dsimp -implicitDefEqProofs only [go_sem]⟩ (by simp -dsimp -implicitDefEqProofs only [go_sem]) (by simp -dsimp -implicitDefEqProofs only [go_sem]) (h5'.ac (by simp only [BytW, KnowR]; ac_rfl)) ?_
      rintro e' w6 hb6 e16 h6
      simp -dsimp -implicitDefEqProofs (disch := omega) only [go_sem, reqD_of, dec_t, dec_f, wrap_i64, wrap_u32, wrap_u64, wrap_u8]
      refine bytes_t30_1 (x := x) (y := y) (v0 := (.slice (some ⟨d0, 0, none⟩) 65536 65536)) (v1 := (.slice (some ⟨d1, 0, none⟩) 65536 65536)) (bd := bd) (d := dataF ls[i].v m) (n := m) (at_ := at2) hx hy (data_len _ _) (by omega) (by omega) (by omega) hb6 e16 (h6.ac (by simp only [KnowR]; ac_rfl)) ?_
      rintro e'' w7 hb7 h7
      simp -dsimp -implicitDefEqProofs (disch := omega) only [go_sem, reqD_of, dec_t, dec_f, wrap_i64, wrap_u32, wrap_u64, wrap_u8]
      have hl7 : (layF y at2 (dataF ls[i].v m)).length ≤ 65536 := by rw [layF_len, data_len]; omega
      refine bytes_t48_1 (x := x) (y := (layF y at2 (dataF ls[i].v m))) hx hl7 hb7 h7 ?_
      rintro e3 w8 ⟨f1, f2, f3, f4, f5, f6, f7, f8, f9, f10, f11⟩ h8
      simp -dsimp -implicitDefEqProofs (disch := omega) only [go_sem, reqD_of, dec_t, dec_f, wrap_i64, wrap_u32, wrap_u64, wrap_u8, f1, f2, f3, f4, f5, f6, f7, e11]
      exact ⟨⟨i + 1, x, (layF y at2 (dataF ls[i].v m)), by omega, hx, hl7, by omega, h8⟩, by omega⟩
    by_cases k2 : p.kind = 2
    · simp -dsimp -implicitDefEqProofs (disch := omega) only [go_sem, reqD_of, dec_t, dec_f, wrap_i64, wrap_u32, wrap_u64, wrap_u8, hd, e0, e3, e4, e9, e10, e11, q0, k1, k2]
      refine bytes_loop5 (len := ls.length) (i := i) (k := 1) (at_ := at_) (n := 1 + n) (a := some ⟨g, o, none⟩) (c := c) (b := b) (K := K) (L := L) (ds := []) (gk := d1) (ok := 0) (ck := 65536) (kc := #[.slice (some ⟨d0, 0, none⟩) 65536 65536, .slice (some ⟨d1, 0, none⟩) 65536 65536]) (lc := #[.int .i64 x.length, .int .i64 y.length]) (ln := y.length) (u := knowF y) (F := StoreP b 0 0 (byteS x y) * (KnowR (.slice (some ⟨d0, 0, none⟩) 65536 65536) (knowF x) * NilB A)) rfl rfl (by decide) (know_len (by omega)) (by omega) (by omega) ⟨by simp -dsimp -implicitDefEqProofs only [go_sem, hd], by simp -dsimp -implicitDefEqProofs only [go_sem, e0], by simp -dsimp -implicitDefEqProofs only [go_sem, e3], by simp -dsimp -implicitDefEqProofs only [go_sem, e4], by simp -dsimp -implicitDefEqProofs only [go_sem, e9], by simp -dsimp -implicitDefEqProofs only [go_sem, e10], by simp -dsimp -implicitDefEqProofs only [go_sem, e11], by simp -dsimp -implicitDefEqProofs only [go_sem], by simp -dsimp -implicitDefEqProofs only [go_sem], by simp -dsimp -implicitDefEqProofs only [go_sem]; omega, by simp -dsimp -implicitDefEqProofs only [go_sem]⟩ (by simp -dsimp -implicitDefEqProofs only [go_sem]) (h3.ac (by simp only [BytW, KnowR]; ac_rfl)) ?_
      rintro e' w6 hb6 h6
      simp -dsimp -implicitDefEqProofs (disch := omega) only [go_sem, reqD_of, dec_t, dec_f, wrap_i64, wrap_u32, wrap_u64, wrap_u8]
      refine bytes_t39_1 (x := x) (y := y) (v0 := (.slice (some ⟨d0, 0, none⟩) 65536 65536)) (v1 := (.slice (some ⟨d1, 0, none⟩) 65536 65536)) (n := 1 + n) (at_ := at_) hx hy (by omega) hb6 (h6.ac (by simp only [KnowR]; ac_rfl)) ?_
      rintro e'' w7 hb7 h7
      simp -dsimp -implicitDefEqProofs (disch := omega) only [go_sem, reqD_of, dec_t, dec_f, wrap_i64, wrap_u32, wrap_u64, wrap_u8]
      have hl7 : (padF y at_).length ≤ 65536 := by rw [padF_len]; omega
      refine bytes_t48_1 (x := x) (y := (padF y at_)) hx hl7 hb7 h7 ?_
      rintro e3 w8 ⟨f1, f2, f3, f4, f5, f6, f7, f8, f9, f10, f11⟩ h8
      simp -dsimp -implicitDefEqProofs (disch := omega) only [go_sem, reqD_of, dec_t, dec_f, wrap_i64, wrap_u32, wrap_u64, wrap_u8, f1, f2, f3, f4, f5, f6, f7, e11]
      exact ⟨⟨i + 1, x, (padF y at_), by omega, hx, hl7, by omega, h8⟩, by omega⟩
    have hb7 : ∀ {e : FA}, True := fun {_} => trivial
    by_cases k3 : p.kind = 3
    · have hL : w3.cell? ⟨L, 1, none⟩ = some (.int .i64 (y.length : Int)) := (h3.cl L) 1
      obtain ⟨E, hE⟩ : ∃ E, E = max at_ (min (at_ + 16 * (1 + n)) y.length) := ⟨_, rfl⟩
      have hend : (if (at_ : Int) < (if (y.length : Int) < (at_ : Int) + 16 * (1 + (n : Int)) then (y.length : Int) else (at_ : Int) + 16 * (1 + (n : Int))) then (if (y.length : Int) < (at_ : Int) + 16 * (1 + (n : Int)) then (y.length : Int) else (at_ : Int) + 16 * (1 + (n : Int))) else (at_ : Int)) = (E : Int) := by
        split <;> split <;> omega
      simp -dsimp -implicitDefEqProofs (disch := omega) only [go_sem, reqD_of, dec_t, dec_f, wrap_i64, wrap_u32, wrap_u64, wrap_u8, hd, e0, e3, e4, e9, e10, e11, q0, k1, k2, k3, hL, hend]
      refine (sread_any (p := 3) (off := at_) (k := 16 * (1 + (n : Int))) h3 (by omega) (by omega)).mono ?_
      rintro e' w4 ⟨v4, h4, rfl⟩
      rw [byte_read (a := x) (b := y) (k := 1) (by decide) (by omega)] at h4
      rw [show (16 * (1 + (n : Int))).toNat = 16 * (1 + n) by omega] at h4
      have h4 : St w0 (RowBy v4 ((y.drop at_).take (16 * (1 + n))) * BytW b K L (.slice (some ⟨d0, 0, none⟩) 65536 65536) (.slice (some ⟨d1, 0, none⟩) 65536 65536) x y A) w4 := h4
      obtain ⟨a4, c4, rfl, _⟩ := h4.rowForm v4
      have h4d := h4.drew
      have hK : w4.drew.cell? ⟨K, 1, none⟩ = some (.slice (some ⟨d1, 0, none⟩) 65536 65536) := (h4d.cl K) 1
      simp -dsimp -implicitDefEqProofs (disch := omega) only [go_sem, reqD_of, dec_t, dec_f, wrap_i64, wrap_u32, wrap_u64, wrap_u8, hd, e0, e3, e4, e9, e10, e11]
      refine St.str (bs := (y.drop at_).take (16 * (1 + n))) h4d ((Ent.left _ _).trans (RowO.reads _ _ _ _ _)) Tryd.underlying51 Tryd.underlying5 Tryd.underlying9 ?_
      simp -dsimp -implicitDefEqProofs (disch := omega) only [go_sem, reqD_of, dec_t, dec_f, wrap_i64, wrap_u32, wrap_u64, wrap_u8, hd, e0, e3, e4, e9, e10, e11, hK]
      have hsub := know_sub (d := d1) (x := y) (lo := at_) (k := E - at_) (by omega) (by omega)
      rw [hE, know_read (by omega) (by omega), ← hE] at hsub
      refine St.str (bs := (y.drop at_).take (16 * (1 + n))) h4d (((Ent.right _ _).trans ((Ent.right _ _).trans ((Ent.right _ _).trans (Ent.left _ _)))).trans hsub) Tryd.underlying51 Tryd.underlying5 Tryd.underlying9 ?_
      simp -dsimp -implicitDefEqProofs (disch := omega) only [go_sem, reqD_of, dec_t, dec_f, wrap_i64, wrap_u32, wrap_u64, wrap_u8, hd, e0, e3, e4, e9, e10, e11]
      have h7 := h4d.right
      refine bytes_t48_1 (a := some ⟨g, o, none⟩) (len := ls.length) (c := c) (i := i) (at_ := at_) (n := 1 + n) (x := x) (y := y) hx hy ⟨by simp -dsimp -implicitDefEqProofs only [go_sem, hd], by simp -dsimp -implicitDefEqProofs only [go_sem, e0], by simp -dsimp -implicitDefEqProofs only [go_sem, e3], by simp -dsimp -implicitDefEqProofs only [go_sem, e4], by simp -dsimp -implicitDefEqProofs only [go_sem, e9], by simp -dsimp -implicitDefEqProofs only [go_sem, e10], by simp -dsimp -implicitDefEqProofs only [go_sem, e11], by simp -dsimp -implicitDefEqProofs only [go_sem], by simp -dsimp -implicitDefEqProofs only [go_sem], by simp -dsimp -implicitDefEqProofs only [go_sem]; omega, by simp -dsimp -implicitDefEqProofs only [go_sem]⟩ h7 ?_
      rintro e3 w8 ⟨f1, f2, f3, f4, f5, f6, f7, f8, f9, f10, f11⟩ h8
      simp -dsimp -implicitDefEqProofs (disch := omega) only [go_sem, reqD_of, dec_t, dec_f, wrap_i64, wrap_u32, wrap_u64, wrap_u8, f1, f2, f3, f4, f5, f6, f7, e11]
      exact ⟨⟨i + 1, x, y, by omega, hx, hy, by omega, h8⟩, by omega⟩
    · simp -dsimp -implicitDefEqProofs (disch := omega) only [go_sem, reqD_of, dec_t, dec_f, wrap_i64, wrap_u32, wrap_u64, wrap_u8, hd, e0, e3, e4, e9, e10, e11, q0, k1, k2, k3]
      have h7 := h3
      refine bytes_t48_1 (a := some ⟨g, o, none⟩) (len := ls.length) (c := c) (i := i) (at_ := at_) (n := 1 + n) (x := x) (y := y) hx hy ⟨by simp -dsimp -implicitDefEqProofs only [go_sem, hd], by simp -dsimp -implicitDefEqProofs only [go_sem, e0], by simp -dsimp -implicitDefEqProofs only [go_sem, e3], by simp -dsimp -implicitDefEqProofs only [go_sem, e4], by simp -dsimp -implicitDefEqProofs only [go_sem, e9], by simp -dsimp -implicitDefEqProofs only [go_sem, e10], by simp -dsimp -implicitDefEqProofs only [go_sem, e11], by simp -dsimp -implicitDefEqProofs only [go_sem], by simp -dsimp -implicitDefEqProofs only [go_sem], by simp -dsimp -implicitDefEqProofs only [go_sem]; omega, by simp -dsimp -implicitDefEqProofs only [go_sem]⟩ h7 ?_
      rintro e3 w8 ⟨f1, f2, f3, f4, f5, f6, f7, f8, f9, f10, f11⟩ h8
      simp -dsimp -implicitDefEqProofs (disch := omega) only [go_sem, reqD_of, dec_t, dec_f, wrap_i64, wrap_u32, wrap_u64, wrap_u8, f1, f2, f3, f4, f5, f6, f7, e11]
      exact ⟨⟨i + 1, x, y, by omega, hx, hy, by omega, h8⟩, by omega⟩
theorem bytes_any [Gives A Tabs] (hr : Ent A (Reads 5 (.slice a ls.length c) ls.length (ls.flatMap putC))) (hok : ∀ p ∈ ls, PutOk p) (hlen : ls.length ≤ 1000000000000 * 4) (h : St w0 A w) :
    Calls Tryd.prog 5 #[.slice a ls.length c] w fun e w' => St w0 A w' ∧ e = .returned (.bool true) := by
  refine F5.calls (by simp) ?_
  unfold F5.code
  simp -dsimp -implicitDefEqProofs (disch := omega) only [go_sem, reqD_of, dec_t, dec_f, wrap_i64, wrap_u32, wrap_u64, wrap_u8]
  refine (works_any h).mono ?_
  rintro e w1 ⟨h1, rfl⟩
  by_cases hbig : (8388608 : Int) < ls.length
  · simp -dsimp -implicitDefEqProofs (disch := omega) only [go_sem, reqD_of, dec_t, dec_f, wrap_i64, wrap_u32, wrap_u64, wrap_u8, hbig]
    exact h1
  simp -dsimp -implicitDefEqProofs (disch := omega) only [go_sem, reqD_of, dec_t, dec_f, wrap_i64, wrap_u32, wrap_u64, wrap_u8, hbig]
  have hN : St w0 (NilB A) w1 := h1.nilR 5 1
  refine (store_any (n := 3) (by decide) hN).mono ?_
  rintro e w2 ⟨b, h2, rfl⟩
  haveI g1 : Gives (NilB A) (RdB (.slice none 0 0) (makF 1 [97] 384).data) := NilB.gives A rfl
  haveI g2 : Gives (NilB A) (RdB (.slice none 0 0) (makF 1 [98] 384).data) := NilB.gives A rfl
  simp -dsimp -implicitDefEqProofs (disch := omega) only [go_sem, reqD_of, dec_t, dec_f, wrap_i64, wrap_u32, wrap_u64, wrap_u8]
  refine (mak_any (p := 1) (nm := [97]) (m := 384) h2).mono ?_
  rintro e w3 ⟨h3, rfl⟩
  simp -dsimp -implicitDefEqProofs (disch := omega) only [go_sem, reqD_of, dec_t, dec_f, wrap_i64, wrap_u32, wrap_u64, wrap_u8]
  refine (do_any (o := makF 1 [97] 384) (vd := .slice none 0 0) (mak_in (by decide) (by decide)) (by decide) (by decide) h3).mono ?_
  rintro e w4 ⟨h4, rfl⟩
  rw [byteS_1]
  simp -dsimp -implicitDefEqProofs (disch := omega) only [go_sem, reqD_of, dec_t, dec_f, wrap_i64, wrap_u32, wrap_u64, wrap_u8]
  refine (mak_any (p := 1) (nm := [98]) (m := 384) h4).mono ?_
  rintro e w5 ⟨h5, rfl⟩
  simp -dsimp -implicitDefEqProofs (disch := omega) only [go_sem, reqD_of, dec_t, dec_f, wrap_i64, wrap_u32, wrap_u64, wrap_u8]
  refine (do_any (o := makF 1 [98] 384) (vd := .slice none 0 0) (mak_in (by decide) (by decide)) (by decide) (by decide) h5).mono ?_
  rintro e w6 ⟨h6, rfl⟩
  rw [byteS_2] at h6 ⊢
  have h6 : St w0 (StoreP b 0 0 (byteS [] []) * NilB A) w6 := h6
  simp -dsimp -implicitDefEqProofs (disch := omega) only [go_sem, reqD_of, dec_t, dec_f, wrap_i64, wrap_u32, wrap_u64, wrap_u8]
  have hd := h6.drew
  refine ⟨?_, ?_⟩
  · skip
    refine St.make1 hd (n := 65536) (c := 65536) rowTy_bytes (by decide) (by decide) (by decide) fun d0 w7 h7 => ?_
    simp -dsimp -implicitDefEqProofs (disch := omega) only [go_sem, reqD_of, dec_t, dec_f, wrap_i64, wrap_u32, wrap_u64, wrap_u8]
    refine ⟨?_, ?_⟩
    · skip
      refine St.make1 h7 (n := 65536) (c := 65536) rowTy_bytes (by decide) (by decide) (by decide) fun d1 w8 h8 => ?_
      simp -dsimp -implicitDefEqProofs (disch := omega) only [go_sem, reqD_of, dec_t, dec_f, wrap_i64, wrap_u32, wrap_u64, wrap_u8]
      refine onV_of (v := .agg #[.slice (some ⟨d0, 0, none⟩) 65536 65536, .slice (some ⟨d1, 0, none⟩) 65536 65536]) (by kernel_rfl) ?_
      simp -dsimp -implicitDefEqProofs (disch := omega) only [go_sem, reqD_of, dec_t, dec_f, wrap_i64, wrap_u32, wrap_u64, wrap_u8]
      refine h8.new fun K w9 h9 => ?_
      simp -dsimp -implicitDefEqProofs (disch := omega) only [go_sem, reqD_of, dec_t, dec_f, wrap_i64, wrap_u32, wrap_u64, wrap_u8]
      refine h9.stoAll (b := K) (cs := [.slice (some ⟨d0, 0, none⟩) 65536 65536, .slice (some ⟨d1, 0, none⟩) 65536 65536]) rfl rfl (by intro v hv; simp only [List.mem_cons, List.not_mem_nil, or_false] at hv; rcases hv with rfl | rfl <;> rfl) fun w10 h10 => ?_
      simp -dsimp -implicitDefEqProofs (disch := omega) only [go_sem, reqD_of, dec_t, dec_f, wrap_i64, wrap_u32, wrap_u64, wrap_u8]
      exact bytes_t12 (b := b) (K := K) (d0 := d0) (d1 := d1) hr hok hlen (by simp -dsimp -implicitDefEqProofs only [go_sem]) (by simp -dsimp -implicitDefEqProofs only [go_sem]) (by simp -dsimp -implicitDefEqProofs only [go_sem]) (by simp -dsimp -implicitDefEqProofs only [go_sem]) (by simp -dsimp -implicitDefEqProofs only [go_sem]) (by omega) (h10.ac (by rw [zero_know]; simp only [KnowR]; ac_rfl))
    · skip
      refine h7.new fun K w8 h8 => ?_
      simp -dsimp -implicitDefEqProofs (disch := omega) only [go_sem, reqD_of, dec_t, dec_f, wrap_i64, wrap_u32, wrap_u64, wrap_u8]
      refine St.make1 h8 (n := 65536) (c := 65536) rowTy_bytes (by decide) (by decide) (by decide) fun d1 w9 h9 => ?_
      simp -dsimp -implicitDefEqProofs (disch := omega) only [go_sem, reqD_of, dec_t, dec_f, wrap_i64, wrap_u32, wrap_u64, wrap_u8]
      refine onV_of (v := .agg #[.slice (some ⟨d0, 0, none⟩) 65536 65536, .slice (some ⟨d1, 0, none⟩) 65536 65536]) (by kernel_rfl) ?_
      simp -dsimp -implicitDefEqProofs (disch := omega) only [go_sem, reqD_of, dec_t, dec_f, wrap_i64, wrap_u32, wrap_u64, wrap_u8]
      refine h9.stoAll (b := K) (cs := [.slice (some ⟨d0, 0, none⟩) 65536 65536, .slice (some ⟨d1, 0, none⟩) 65536 65536]) rfl rfl (by intro v hv; simp only [List.mem_cons, List.not_mem_nil, or_false] at hv; rcases hv with rfl | rfl <;> rfl) fun w10 h10 => ?_
      simp -dsimp -implicitDefEqProofs (disch := omega) only [go_sem, reqD_of, dec_t, dec_f, wrap_i64, wrap_u32, wrap_u64, wrap_u8]
      exact bytes_t12 (b := b) (K := K) (d0 := d0) (d1 := d1) hr hok hlen (by simp -dsimp -implicitDefEqProofs only [go_sem]) (by simp -dsimp -implicitDefEqProofs only [go_sem]) (by simp -dsimp -implicitDefEqProofs only [go_sem]) (by simp -dsimp -implicitDefEqProofs only [go_sem]) (by simp -dsimp -implicitDefEqProofs only [go_sem]) (by omega) (h10.ac (by rw [zero_know]; simp only [KnowR]; ac_rfl))
  · skip
    refine ⟨?_, ?_⟩
    · skip
      refine St.make1 hd (n := 65536) (c := 65536) rowTy_bytes (by decide) (by decide) (by decide) fun d1 w7 h7 => ?_
      simp -dsimp -implicitDefEqProofs (disch := omega) only [go_sem, reqD_of, dec_t, dec_f, wrap_i64, wrap_u32, wrap_u64, wrap_u8]
      refine ⟨?_, ?_⟩
      · skip
        refine St.make1 h7 (n := 65536) (c := 65536) rowTy_bytes (by decide) (by decide) (by decide) fun d0 w8 h8 => ?_
        simp -dsimp -implicitDefEqProofs (disch := omega) only [go_sem, reqD_of, dec_t, dec_f, wrap_i64, wrap_u32, wrap_u64, wrap_u8]
        refine onV_of (v := .agg #[.slice (some ⟨d0, 0, none⟩) 65536 65536, .slice (some ⟨d1, 0, none⟩) 65536 65536]) (by kernel_rfl) ?_
        simp -dsimp -implicitDefEqProofs (disch := omega) only [go_sem, reqD_of, dec_t, dec_f, wrap_i64, wrap_u32, wrap_u64, wrap_u8]
        refine h8.new fun K w9 h9 => ?_
        simp -dsimp -implicitDefEqProofs (disch := omega) only [go_sem, reqD_of, dec_t, dec_f, wrap_i64, wrap_u32, wrap_u64, wrap_u8]
        refine h9.stoAll (b := K) (cs := [.slice (some ⟨d0, 0, none⟩) 65536 65536, .slice (some ⟨d1, 0, none⟩) 65536 65536]) rfl rfl (by intro v hv; simp only [List.mem_cons, List.not_mem_nil, or_false] at hv; rcases hv with rfl | rfl <;> rfl) fun w10 h10 => ?_
        simp -dsimp -implicitDefEqProofs (disch := omega) only [go_sem, reqD_of, dec_t, dec_f, wrap_i64, wrap_u32, wrap_u64, wrap_u8]
        exact bytes_t12 (b := b) (K := K) (d0 := d0) (d1 := d1) hr hok hlen (by simp -dsimp -implicitDefEqProofs only [go_sem]) (by simp -dsimp -implicitDefEqProofs only [go_sem]) (by simp -dsimp -implicitDefEqProofs only [go_sem]) (by simp -dsimp -implicitDefEqProofs only [go_sem]) (by simp -dsimp -implicitDefEqProofs only [go_sem]) (by omega) (h10.ac (by rw [zero_know]; simp only [KnowR]; ac_rfl))
      · skip
        refine h7.new fun K w8 h8 => ?_
        simp -dsimp -implicitDefEqProofs (disch := omega) only [go_sem, reqD_of, dec_t, dec_f, wrap_i64, wrap_u32, wrap_u64, wrap_u8]
        refine St.make1 h8 (n := 65536) (c := 65536) rowTy_bytes (by decide) (by decide) (by decide) fun d0 w9 h9 => ?_
        simp -dsimp -implicitDefEqProofs (disch := omega) only [go_sem, reqD_of, dec_t, dec_f, wrap_i64, wrap_u32, wrap_u64, wrap_u8]
        refine onV_of (v := .agg #[.slice (some ⟨d0, 0, none⟩) 65536 65536, .slice (some ⟨d1, 0, none⟩) 65536 65536]) (by kernel_rfl) ?_
        simp -dsimp -implicitDefEqProofs (disch := omega) only [go_sem, reqD_of, dec_t, dec_f, wrap_i64, wrap_u32, wrap_u64, wrap_u8]
        refine h9.stoAll (b := K) (cs := [.slice (some ⟨d0, 0, none⟩) 65536 65536, .slice (some ⟨d1, 0, none⟩) 65536 65536]) rfl rfl (by intro v hv; simp only [List.mem_cons, List.not_mem_nil, or_false] at hv; rcases hv with rfl | rfl <;> rfl) fun w10 h10 => ?_
        simp -dsimp -implicitDefEqProofs (disch := omega) only [go_sem, reqD_of, dec_t, dec_f, wrap_i64, wrap_u32, wrap_u64, wrap_u8]
        exact bytes_t12 (b := b) (K := K) (d0 := d0) (d1 := d1) hr hok hlen (by simp -dsimp -implicitDefEqProofs only [go_sem]) (by simp -dsimp -implicitDefEqProofs only [go_sem]) (by simp -dsimp -implicitDefEqProofs only [go_sem]) (by simp -dsimp -implicitDefEqProofs only [go_sem]) (by simp -dsimp -implicitDefEqProofs only [go_sem]) (by omega) (h10.ac (by rw [zero_know]; simp only [KnowR]; ac_rfl))
    · skip
      refine hd.new fun K w7 h7 => ?_
      simp -dsimp -implicitDefEqProofs (disch := omega) only [go_sem, reqD_of, dec_t, dec_f, wrap_i64, wrap_u32, wrap_u64, wrap_u8]
      refine ⟨?_, ?_⟩
      · skip
        refine St.make1 h7 (n := 65536) (c := 65536) rowTy_bytes (by decide) (by decide) (by decide) fun d0 w8 h8 => ?_
        simp -dsimp -implicitDefEqProofs (disch := omega) only [go_sem, reqD_of, dec_t, dec_f, wrap_i64, wrap_u32, wrap_u64, wrap_u8]
        refine St.make1 h8 (n := 65536) (c := 65536) rowTy_bytes (by decide) (by decide) (by decide) fun d1 w9 h9 => ?_
        simp -dsimp -implicitDefEqProofs (disch := omega) only [go_sem, reqD_of, dec_t, dec_f, wrap_i64, wrap_u32, wrap_u64, wrap_u8]
        refine onV_of (v := .agg #[.slice (some ⟨d0, 0, none⟩) 65536 65536, .slice (some ⟨d1, 0, none⟩) 65536 65536]) (by kernel_rfl) ?_
        simp -dsimp -implicitDefEqProofs (disch := omega) only [go_sem, reqD_of, dec_t, dec_f, wrap_i64, wrap_u32, wrap_u64, wrap_u8]
        refine h9.stoAll (b := K) (cs := [.slice (some ⟨d0, 0, none⟩) 65536 65536, .slice (some ⟨d1, 0, none⟩) 65536 65536]) rfl rfl (by intro v hv; simp only [List.mem_cons, List.not_mem_nil, or_false] at hv; rcases hv with rfl | rfl <;> rfl) fun w10 h10 => ?_
        simp -dsimp -implicitDefEqProofs (disch := omega) only [go_sem, reqD_of, dec_t, dec_f, wrap_i64, wrap_u32, wrap_u64, wrap_u8]
        exact bytes_t12 (b := b) (K := K) (d0 := d0) (d1 := d1) hr hok hlen (by simp -dsimp -implicitDefEqProofs only [go_sem]) (by simp -dsimp -implicitDefEqProofs only [go_sem]) (by simp -dsimp -implicitDefEqProofs only [go_sem]) (by simp -dsimp -implicitDefEqProofs only [go_sem]) (by simp -dsimp -implicitDefEqProofs only [go_sem]) (by omega) (h10.ac (by rw [zero_know]; simp only [KnowR]; ac_rfl))
      · skip
        refine St.make1 h7 (n := 65536) (c := 65536) rowTy_bytes (by decide) (by decide) (by decide) fun d1 w8 h8 => ?_
        simp -dsimp -implicitDefEqProofs (disch := omega) only [go_sem, reqD_of, dec_t, dec_f, wrap_i64, wrap_u32, wrap_u64, wrap_u8]
        refine St.make1 h8 (n := 65536) (c := 65536) rowTy_bytes (by decide) (by decide) (by decide) fun d0 w9 h9 => ?_
        simp -dsimp -implicitDefEqProofs (disch := omega) only [go_sem, reqD_of, dec_t, dec_f, wrap_i64, wrap_u32, wrap_u64, wrap_u8]
        refine onV_of (v := .agg #[.slice (some ⟨d0, 0, none⟩) 65536 65536, .slice (some ⟨d1, 0, none⟩) 65536 65536]) (by kernel_rfl) ?_
        simp -dsimp -implicitDefEqProofs (disch := omega) only [go_sem, reqD_of, dec_t, dec_f, wrap_i64, wrap_u32, wrap_u64, wrap_u8]
        refine h9.stoAll (b := K) (cs := [.slice (some ⟨d0, 0, none⟩) 65536 65536, .slice (some ⟨d1, 0, none⟩) 65536 65536]) rfl rfl (by intro v hv; simp only [List.mem_cons, List.not_mem_nil, or_false] at hv; rcases hv with rfl | rfl <;> rfl) fun w10 h10 => ?_
        simp -dsimp -implicitDefEqProofs (disch := omega) only [go_sem, reqD_of, dec_t, dec_f, wrap_i64, wrap_u32, wrap_u64, wrap_u8]
        exact bytes_t12 (b := b) (K := K) (d0 := d0) (d1 := d1) hr hok hlen (by simp -dsimp -implicitDefEqProofs only [go_sem]) (by simp -dsimp -implicitDefEqProofs only [go_sem]) (by simp -dsimp -implicitDefEqProofs only [go_sem]) (by simp -dsimp -implicitDefEqProofs only [go_sem]) (by simp -dsimp -implicitDefEqProofs only [go_sem]) (by omega) (h10.ac (by rw [zero_know]; simp only [KnowR]; ac_rfl))
end
end
end Go.Proofs.YtijnmokpihhhcaaDoor

namespace Go.Proofs.YtijnmokpihhhcaaDoor
open Go
set_option linter.unusedVariables false
set_option linter.unusedSimpArgs false

abbrev rPut := rCons 1 (rInt .i64) (rCons 1 (rInt .i64) (rCons 1 (rInt .i64) (rCons 1 (rInt .i64) (rCons 1 (rInt .u8) (rEnd)))))
theorem rPut_cells {x} {cs : List Value} {h : Heap} (r : rPut.rel x cs h) : ∃ y : PutD, cs = putC y ∧ PutOk y := by
  obtain ⟨x1, x2, x3, x4, x5, _⟩ := x
  obtain ⟨_, _, rfl, _, ⟨rfl, w1⟩, _, _, rfl, _, ⟨rfl, w2⟩, _, _, rfl, _, ⟨rfl, w3⟩, _, _, rfl, _, ⟨rfl, w4⟩, _, _, rfl, _, ⟨rfl, w5⟩, rfl⟩ := r
  obtain ⟨a1, a2⟩ := wf_u8 w5
  refine ⟨⟨x1, x2, x3, x4, x5.toNat⟩, ?_, ⟨wf_i64 w1, wf_i64 w2, wf_i64 w3, wf_i64 w4, a2⟩⟩
  simp only [putC, a1, List.cons_append, List.nil_append]
theorem puts_arg {W : World} {xs} {v : Value} (c : (rSlice 5 40 rPut).rel xs [v] (heapOf W)) : ∃ ls : List PutD, (∃ a c, v = .slice a ls.length c) ∧ Ent (Old W) (Reads 5 v ls.length (ls.flatMap putC)) ∧ (∀ p ∈ ls, PutOk p) ∧ ls.length ≤ 1000000000000 * 4 := by
  obtain ⟨ls, hl, h1, h2⟩ := rSlice_choose (β := PutD) (enc := putC) (p := fun y _ => PutOk y) (fun x cs h r => rPut_cells r) putC_len c
  have hb := rSlice_len c
  have hq : reachBytes = 140737488351232 := rfl
  have hr : Ent (Old W) (Reads 5 v ls.length (ls.flatMap putC)) := Ent.of fun _ ho => Reads.mono (fun b o e => ho b o e) h2
  obtain ⟨_, a, c', e, _⟩ := St.rowsAt putC_len (by decide) ((St.start W).ent hr)
  exact ⟨ls, ⟨a, c', e⟩, hr, fun y hy => h1 y hy, by omega⟩
end Go.Proofs.YtijnmokpihhhcaaDoor
