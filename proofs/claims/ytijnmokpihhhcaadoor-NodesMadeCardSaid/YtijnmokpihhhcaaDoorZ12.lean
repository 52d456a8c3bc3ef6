/- A node is no more. · A node is called otherwise. · A node is called otherwise: the walk. · Operations: turn, Do. · A store of the root alone. · The law's first helpers: store, mak. · What the chapter's first and third examples fix. · What the chapter's first and third examples fix: the walk. · NodesNames: the walk. · The reference's characters are the library's. · The reference's good texts. · A configuration: the plain law of New. · Arguments that are rows of structs with slices in them, as rows that are read. · A store of every configuration, here and in the reference. · Arguments that are rows of numbers or of texts, as rows that are read. · Operations handed in, and their weight. · NodesMade: the walk. -/
import Derived.Test.YtijnmokpihhhcaaDoorZ1
import Derived.Test.YtijnmokpihhhcaaDoorZ2
import Derived.Test.YtijnmokpihhhcaaDoorZ3
import Derived.Test.YtijnmokpihhhcaaDoorZ4
import Derived.Test.YtijnmokpihhhcaaDoorZ5
import Derived.Test.YtijnmokpihhhcaaDoorZ6
import Derived.Test.YtijnmokpihhhcaaDoorZ7
import Derived.Test.YtijnmokpihhhcaaDoorZ8
import Derived.Test.YtijnmokpihhhcaaDoorZ9
import Derived.Test.YtijnmokpihhhcaaDoorZ10
import Derived.Test.YtijnmokpihhhcaaDoorZ11
import Derived.SizedLaws
namespace Go.Proofs.YtijnmokpihhhcaaDoor
open Go
set_option linter.unusedVariables false
set_option linter.unusedSimpArgs false
set_option maxRecDepth 100000

theorem drop_paths (L : List NodeD) (p : Nat) : (dropN L p).map (·.i.path) = (L.map (·.i.path)).filter fun k => !(k == p) := by
  unfold dropN
  rw [List.filter_map]; rfl

section
variable {w0 w : World} {A : HP} {b B K : Nat} {s : SD} {y : SX} {X1 X2 : List NN} {x : NN} {t : Inf} {st rc : Int} {e : FA} {R : Ending → World → Prop}

section
attribute [local go_sem] F66.t6_eq
theorem drop_any (ok : StoreOk s y) (hs : y.X = X1 ++ x :: X2) (hw : Wf (delF s x.d).1) (h : St w0 (StoreQ b st rc s y * A) w) :
    Calls Tryd.prog 66 #[.pointer (some ⟨b, 0, none⟩), .pointer (some ⟨x.n, 0, none⟩)] w (TurnR w0 A b st rc (delF s x.d)) := by
  have hx : x ∈ y.X := by rw [hs]; simp
  have hdm : x.d ∈ s.L := ok.perm.mem_iff.1 (List.mem_map.2 ⟨x, hx, rfl⟩)
  have hks := ok.kids x hx
  have few := ok.wf.few
  have most := ok.wf.most
  have h0 := h.ac (StoreQ.eq hs)
  obtain ⟨a, c, hvk, hl0, hnc, hcm⟩ := h0.rowForm x.vk
  refine F66.calls (by simp) ?_
  unfold F66.code
  by_cases c1 : (x.d.i.path : Int) = 1
  · have hr : delF s x.d = (s, 0, 81) := by unfold delF; rw [if_pos (by omega)]
    rw [hr]
    simp -dsimp -implicitDefEqProofs (disch := omega) only [go_sem, reqD_of, dec_t, dec_f, wrap_i64, wrap_u32, wrap_u64, wrap_u8, h0.cl x.n, c1]
    exact ⟨y, ok, h0.ac (StoreQ.eq hs).symm, rfl⟩
  by_cases c2 : (0 : Int) < (x.ks.length : Int)
  · have hr : delF s x.d = (s, 0, 85) := by unfold delF; rw [if_neg (by omega), if_pos (by rw [← hks]; omega)]
    rw [hr]
    simp -dsimp -implicitDefEqProofs (disch := omega) only [go_sem, reqD_of, dec_t, dec_f, wrap_i64, wrap_u32, wrap_u64, wrap_u8, h0.cl x.n, c1, hvk, c2]
    exact ⟨y, ok, h0.ac (StoreQ.eq hs).symm, rfl⟩
  have h1 : x.d.i.path ≠ 1 := by omega
  have hr : delF s x.d = ({ s with L := dropN s.L x.d.i.path }, x.d.i.path, 0) := by unfold delF; rw [if_neg h1, if_neg (by rw [← hks]; omega)]
  rw [hr] at hw ⊢
  obtain ⟨hup, d, hfd, _⟩ := ok.wf.up _ hdm h1
  obtain ⟨Y1, z, Y2, hy, rfl, hzy, hlz⟩ := ok.some hfd
  have hzp := (find_some hfd).2
  have hzx : z ∈ X1 ++ X2 := by
    rw [hs] at hzy
    rcases List.mem_append.1 hzy with h | h
    · simp [h]
    · rcases List.mem_cons.1 h with h | h
      · subst h; omega
      · simp [h]
  obtain ⟨Z1, Z2, hz⟩ := List.append_of_mem hzx
  have h2 : St w0 (NodeB x.n 0 x.d.i x.vk x.vb * (RowU x.vk x.ks * (BlksP x.vb x.P * (NodeB z.n 0 z.d.i z.vk z.vb * (RowU z.vk z.ks * (BlksP z.vb z.P * (StoreR b st rc s y (y.X.map kv) (Z1 ++ Z2) * A))))))) w := by
    have e1 : starL nodeP (X1 ++ X2) = NodeB z.n 0 z.d.i z.vk z.vb * (RowU z.vk z.ks * BlksP z.vb z.P) * starL nodeP (Z1 ++ Z2) := by
      rw [hz, starL_split]; rfl
    refine h0.ac ?_
    simp only [StoreR]
    rw [e1]
    ac_rfl
  simp -dsimp -implicitDefEqProofs (disch := omega) only [go_sem, reqD_of, dec_t, dec_f, wrap_i64, wrap_u32, wrap_u64, wrap_u8, h2.cl x.n, c1, hvk, c2, h2.drew.cl x.n, h2.drew.cl b]
  refine h2.drew.lkH (b := y.N) (x := (x.d.i.parent : Int)) Tryd.underlying93 lawU zero_ptr ?_
  rw [hlz]
  simp -dsimp -implicitDefEqProofs (disch := omega) only [go_sem, reqD_of, dec_t, dec_f, wrap_i64, wrap_u32, wrap_u64, wrap_u8, lkV, h2.drew.cl x.n, h2.drew.cl b, h2.drew.cl z.n]
  have hzks := ok.kids z hzy
  have hzl := kids_len s.L z.d.i.path
  have h3 : St w0 (RowU z.vk z.ks * (NodeB x.n 0 x.d.i x.vk x.vb * (NodeB z.n 0 z.d.i z.vk z.vb * (BlksP z.vb z.P * (StoreR b st rc s y (y.X.map kv) (Z1 ++ Z2) * A))))) w.drew := by
    have := h2.drew
    refine St.right (A := RowU x.vk x.ks * BlksP x.vb x.P) (this.ac ?_)
    ac_rfl
  refine (without_any (l := z.ks) h3 (by rw [hzks]; exact kids_rise ok.wf _) (by rw [hzks]; omega)).mono ?_
  rintro e w4 ⟨v4, h4, rfl⟩
  obtain ⟨a4, c4, rfl, _⟩ := h4.rowForm v4
  simp -dsimp -implicitDefEqProofs (disch := omega) only [go_sem, reqD_of, dec_t, dec_f, wrap_i64, wrap_u32, wrap_u64, wrap_u8, h4.cl z.n]
  refine h4.sto (b := z.n) (by simp) rfl fun w5 h5 => ?_
  simp only [List.setIfInBounds_toArray, List.set_cons_succ, List.set_cons_zero] at h5
  simp -dsimp -implicitDefEqProofs (disch := omega) only [go_sem, reqD_of, dec_t, dec_f, wrap_i64, wrap_u32, wrap_u64, wrap_u8, h5.cl b]
  obtain ⟨zk, hzk⟩ : ∃ zk, zk = z.ks.filter fun k => !(k == x.d.i.path) := ⟨_, rfl⟩
  rw [← hzk] at h5
  have h6 : St w0 (RowU y.ov (s.L.map (·.i.path)) * (RowU (.slice a4 zk.length c4) zk * (NodeB x.n 0 x.d.i x.vk x.vb * (NodeB z.n 0 z.d.i (.slice a4 zk.length c4) z.vb * (BlksP z.vb z.P * (StoreB b st rc s y * (MapP encU y.N (y.X.map kv) * (MapP encK y.C y.cl * (starL nodeP (Z1 ++ Z2) * A))))))))) w5 := by
    refine St.ac (A := RowU (.slice a4 zk.length c4) zk * (NodeB x.n 0 x.d.i x.vk x.vb * (NodeB z.n 0 z.d.i (.slice a4 zk.length c4) z.vb * (BlksP z.vb z.P * (StoreR b st rc s y (y.X.map kv) (Z1 ++ Z2) * A))))) h5 ?_
    simp only [StoreR]
    ac_rfl
  refine (without_any (l := s.L.map (·.i.path)) h6 (rise_paths.1 ok.wf.rise) (by simp; omega)).mono ?_
  rintro e w7 ⟨v7, h7, rfl⟩
  obtain ⟨a7, c7, rfl, _⟩ := h7.rowForm v7
  simp -dsimp -implicitDefEqProofs (disch := omega) only [go_sem, reqD_of, dec_t, dec_f, wrap_i64, wrap_u32, wrap_u64, wrap_u8, h7.cl b]
  refine h7.sto (b := b) (by simp) rfl fun w8 h8 => ?_
  simp only [List.setIfInBounds_toArray, List.set_cons_succ, List.set_cons_zero] at h8
  simp -dsimp -implicitDefEqProofs (disch := omega) only [go_sem, reqD_of, dec_t, dec_f, wrap_i64, wrap_u32, wrap_u64, wrap_u8, h8.drew.cl b, h8.drew.cl x.n]
  refine onV_of (v := encK (x.d.i.parent, x.d.i.name)) (by kernel_rfl) ?_
  simp -dsimp -implicitDefEqProofs (disch := omega) only [go_sem, reqD_of, dec_t, dec_f, wrap_i64, wrap_u32, wrap_u64, wrap_u8, h8.drew.cl b, h8.drew.cl x.n]
  have hcl := h8.mapNodup y.C
  refine h8.drew.delH (b := y.C) (x := ((x.d.i.parent, x.d.i.name) : KD)) Tryd.underlying94 lawK fun w9 h9 => ?_
  simp -dsimp -implicitDefEqProofs (disch := omega) only [go_sem, reqD_of, dec_t, dec_f, wrap_i64, wrap_u32, wrap_u64, wrap_u8, h9.cl b, h9.cl x.n]
  refine h9.delH (b := y.N) (x := (x.d.i.path : Int)) Tryd.underlying93 lawU fun w10 h10 => ?_
  simp -dsimp -implicitDefEqProofs (disch := omega) only [go_sem, reqD_of, dec_t, dec_f, wrap_i64, wrap_u32, wrap_u64, wrap_u8, h10.cl b]
  have hnk : (x.d.i.path : Int) ∉ (X1.map kv).map (·.1) := by
    have := ok.keys
    rw [hs, List.map_append, List.map_cons, List.map_append, List.map_cons, List.nodup_append] at this
    intro hm
    exact this.2.2 _ hm _ List.mem_cons_self rfl
  obtain ⟨z', hz'⟩ : ∃ z' : NN, z' = { z with vk := .slice a4 zk.length c4, ks := z.ks.filter fun k => !(k == x.d.i.path) } := ⟨_, rfl⟩
  have e1 : del (x.d.i.path : Int) (y.X.map kv) = (Z1 ++ z' :: Z2).map kv := by
    have e2 : y.X.map kv = X1.map kv ++ ((x.d.i.path : Int), .pointer (some ⟨x.n, 0, none⟩)) :: X2.map kv := by rw [hs, List.map_append, List.map_cons]; rfl
    rw [e2, del_mid hnk, ← List.map_append, hz, hz']
    simp [kv]
  obtain ⟨of, hof⟩ : ∃ of, of = (s.L.map (·.i.path)).filter fun k => !(k == x.d.i.path) := ⟨_, rfl⟩
  rw [← hof] at h10
  refine ⟨_, storeOk_drop (vk' := .slice a4 zk.length c4) (ov' := .slice a7 of.length c7) ok hs hz hzp h1 hcl hw, ?_, rfl⟩
  rw [← hz']
  obtain ⟨Mc, hMc⟩ : ∃ Mc, Mc = MapP encK y.C (del ((x.d.i.parent, x.d.i.name) : KD) y.cl) := ⟨_, rfl⟩
  obtain ⟨Mn, hMn⟩ : ∃ Mn, Mn = MapP encU y.N (del (x.d.i.path : Int) (y.X.map kv)) := ⟨_, rfl⟩
  have h11 : St w0 (RowU (.slice a7 of.length c7) of * (RowU (.slice a4 zk.length c4) zk * (NodeB x.n 0 x.d.i x.vk x.vb * (NodeB z.n 0 z.d.i (.slice a4 zk.length c4) z.vb * (BlksP z.vb z.P * (Blk b (.cells (storeC st rc s.most s.next (.map (some y.N)) (.slice a7 of.length c7) (.map (some y.C))) 101 (0, 0)) * (Mn * (Mc * (starL nodeP (Z1 ++ Z2) * A))))))))) w10 := by
    rw [hMc, hMn]; exact h10
  have e3 : nodeP z' = NodeB z.n 0 z.d.i (.slice a4 zk.length c4) z.vb * (RowU (.slice a4 zk.length c4) zk * BlksP z.vb z.P) := by rw [hz', hzk]; rfl
  show St w0 (Blk b (.cells (storeC st rc s.most s.next (.map (some y.N)) (.slice a7 of.length c7) (.map (some y.C))) 101 (0, 0)) * (MapP encU y.N ((Z1 ++ z' :: Z2).map kv) * (MapP encK y.C (del ((x.d.i.parent, x.d.i.name) : KD) y.cl) * (RowU (.slice a7 of.length c7) ((dropN s.L x.d.i.path).map (·.i.path)) * starL nodeP (Z1 ++ z' :: Z2)))) * A) w10
  rw [← hMc, ← e1, ← hMn, drop_paths, ← hof, starL_split, e3]
  refine St.right (A := NodeB x.n 0 x.d.i x.vk x.vb) (h11.ac ?_)
  ac_rfl
end
end
end Go.Proofs.YtijnmokpihhhcaaDoor

namespace Go.Proofs.YtijnmokpihhhcaaDoor
open Go
set_option linter.unusedVariables false
set_option linter.unusedSimpArgs false
set_option maxRecDepth 100000

/-- A node by another name. -/
def calledN (n : NodeD) (nm : List UInt8) : NodeD := ⟨{ n.i with name := nm }, n.b⟩

theorem storeOk_call {s : SD} {y : SX} (ok : StoreOk s y) {X1 X2 : List NN} {x : NN} {nm : List UInt8} (hs : y.X = X1 ++ x :: X2) (h1 : x.d.i.path ≠ 1)
    (hcl : (y.cl.map (·.1)).Nodup) (hw : Wf { s with L := updN s.L x.d.i.path fun _ => calledN x.d nm }) :
    StoreOk { s with L := updN s.L x.d.i.path fun _ => calledN x.d nm } { y with X := X1 ++ { x with d := calledN x.d nm } :: X2, cl := upd (x.d.i.parent, nm) (u64V x.d.i.path) (del (x.d.i.parent, x.d.i.name) y.cl) } := by
  have k : Keeps x.d (calledN x.d nm) := ⟨rfl, rfl, rfl⟩
  have hx : x ∈ y.X := by rw [hs]; simp
  have hd : x.d ∈ s.L := ok.perm.mem_iff.1 (List.mem_map.2 ⟨x, hx, rfl⟩)
  obtain ⟨p1, p2, p3⟩ := upd_parts (x' := { x with d := calledN x.d nm }) ok hs rfl k rfl (ok.bytes x hx)
  refine ⟨hw, p1, p2, p3, fun dir m => ?_⟩
  show lk (dir, m) (upd (x.d.i.parent, nm) (u64V x.d.i.path) (del (x.d.i.parent, x.d.i.name) y.cl)) = (childF (updN s.L x.d.i.path fun _ => calledN x.d nm) dir m).map u64V
  have hd' : calledN x.d nm ∈ updN s.L x.d.i.path fun _ => calledN x.d nm := List.mem_map.2 ⟨x.d, hd, by rw [if_pos rfl]⟩
  rw [lk_upd, lk_del hcl]
  by_cases e1 : (dir, m) = (x.d.i.parent, nm)
  · rw [if_pos e1]
    simp only [Prod.mk.injEq] at e1
    obtain ⟨rfl, rfl⟩ := e1
    have := child_of hw hd' h1
    change childF (updN s.L x.d.i.path fun _ => calledN x.d m) x.d.i.parent m = some x.d.i.path at this
    rw [this]; rfl
  rw [if_neg e1]
  by_cases e2 : (dir, m) = (x.d.i.parent, x.d.i.name)
  · rw [if_pos e2]
    simp only [Prod.mk.injEq] at e2
    obtain ⟨rfl, rfl⟩ := e2
    have : childF (updN s.L x.d.i.path fun _ => calledN x.d nm) x.d.i.parent x.d.i.name = none := by
      cases hc : childF (updN s.L x.d.i.path fun _ => calledN x.d nm) x.d.i.parent x.d.i.name with
      | none => rfl
      | some q =>
        obtain ⟨u, hu, rfl, hk, hn⟩ := child_some hc
        rcases upd_mem hu with ⟨rfl, _⟩ | ⟨hu1, hu2⟩
        · exact absurd (by show _ = (_, nm); rw [← hn]; rfl) e1
        · obtain ⟨k1, k2⟩ := (isKid_iff ok.wf hu1).1 hk
          exact absurd (ok.wf.one u hu1 x.d hd k2 h1 k1 hn) hu2
    rw [this]; rfl
  rw [if_neg e2, ok.child]
  congr 1
  unfold childF updN
  refine (find_map_congr fun u hu => ?_).symm
  rcases upd_at (d' := calledN x.d nm) ok.wf.rise hd rfl hu with ⟨rfl, e⟩ | e
  · rw [e]
    refine ⟨?_, rfl⟩
    have a1 : (isKid dir (calledN x.d nm) && (calledN x.d nm).i.name == m) = false := by
      cases hh : isKid dir (calledN x.d nm) && (calledN x.d nm).i.name == m
      · rfl
      · simp only [Bool.and_eq_true, beq_iff_eq, isKid] at hh
        exact absurd (by rw [← hh.1.1, ← hh.2]; rfl) e1
    have a2 : (isKid dir x.d && x.d.i.name == m) = false := by
      cases hh : isKid dir x.d && x.d.i.name == m
      · rfl
      · simp only [Bool.and_eq_true, beq_iff_eq, isKid] at hh
        exact absurd (by rw [← hh.1.1, ← hh.2]) e2
    rw [a1, a2]
  · rw [e]; exact ⟨rfl, rfl⟩
end Go.Proofs.YtijnmokpihhhcaaDoor

namespace Go.Proofs.YtijnmokpihhhcaaDoor
open Go
set_option linter.unusedVariables false
set_option linter.unusedSimpArgs false
set_option maxRecDepth 100000

section
variable {w0 w : World} {A : HP} {b B K : Nat} {s : SD} {y : SX} {X1 X2 : List NN} {x : NN} {t : Inf} {st rc : Int} {nm : List UInt8} {e : FA} {R : Ending → World → Prop}

section
attribute [local go_sem] F67.t10_eq
theorem call_t10 (ok : StoreOk s y) (hs : y.X = X1 ++ x :: X2) (h1 : x.d.i.path ≠ 1) (hw : Wf { s with L := updN s.L x.d.i.path fun _ => calledN x.d nm })
    (h : St w0 (Blk K (.cells [.int .u64 (x.d.i.parent : Int), .string (strOf nm)].toArray 121 (0, 0)) * (NodeB x.n 0 x.d.i x.vk x.vb * (RowU x.vk x.ks * (BlksP x.vb x.P * (StoreR b st rc s y (y.X.map kv) (X1 ++ X2) * A))))) w)
    (hd : e.ds = []) (e0 : e.ρ 0 = .pointer (some ⟨b, 0, none⟩)) (e1 : e.ρ 1 = .pointer (some ⟨x.n, 0, none⟩)) (e2 : e.ρ 2 = .string (strOf nm)) (e8 : e.ρ 8 = .int .u64 x.d.i.path) (e9 : e.ρ 9 = .pointer (some ⟨K, 0, none⟩)) :
    cwE Tryd.prog F67.t10 (fnP Tryd.prog #[.tmp 6, .tmp 7] (TurnR w0 A b st rc ({ s with L := updN s.L x.d.i.path fun _ => calledN x.d nm }, x.d.i.path, 0))) e w := by
  rw [F67.t10_eq]
  simp -dsimp -implicitDefEqProofs (disch := omega) only [go_sem, reqD_of, dec_t, dec_f, wrap_i64, wrap_u32, wrap_u64, wrap_u8, hd, e0, e1, e2, e8, e9, h.drew.cl b, h.drew.cl x.n]
  refine onV_of (v := encK (x.d.i.parent, x.d.i.name)) (by kernel_rfl) ?_
  simp -dsimp -implicitDefEqProofs (disch := omega) only [go_sem, reqD_of, dec_t, dec_f, wrap_i64, wrap_u32, wrap_u64, wrap_u8, hd, e0, e1, e2, e8, e9, h.drew.cl b, h.drew.cl x.n]
  have hcl := h.mapNodup y.C
  refine h.drew.delH (b := y.C) (x := ((x.d.i.parent, x.d.i.name) : KD)) Tryd.underlying94 lawK fun w2 h2 => ?_
  have hK := h2.drew.rowH K 2 rfl
  have hK2 := h2.rowH K 2 rfl
  simp -dsimp -implicitDefEqProofs (disch := omega) only [go_sem, reqD_of, dec_t, dec_f, wrap_i64, wrap_u32, wrap_u64, wrap_u8, hd, e0, e1, e2, e8, e9, h2.cl b, h2.cl x.n, hK2, h2.drew.cl b, hK]
  refine h2.drew.updH (b := y.C) (x := ((x.d.i.parent, nm) : KD)) Tryd.underlying94 lawK fun w3 h3 => ?_
  have hK3 := h3.rowH K 2 rfl
  simp -dsimp -implicitDefEqProofs (disch := omega) only [go_sem, reqD_of, dec_t, dec_f, wrap_i64, wrap_u32, wrap_u64, wrap_u8, hd, e0, e1, e2, e8, e9, h3.cl b, h3.cl x.n, hK3]
  refine h3.sto (b := x.n) (by simp) rfl fun w4 h4 => ?_
  simp only [List.setIfInBounds_toArray, List.set_cons_succ, List.set_cons_zero] at h4
  simp -dsimp -implicitDefEqProofs (disch := omega) only [go_sem, reqD_of, dec_t, dec_f, wrap_i64, wrap_u32, wrap_u64, wrap_u8, hd, e0, e1, e2, e8, e9]
  refine ⟨_, storeOk_call ok hs h1 hcl hw, ?_, rfl⟩
  obtain ⟨x', hx'⟩ : ∃ x' : NN, x' = { x with d := calledN x.d nm } := ⟨_, rfl⟩
  rw [← hx']
  obtain ⟨Mc, hMc⟩ : ∃ Mc, Mc = MapP encK y.C (upd ((x.d.i.parent, nm) : KD) (u64V x.d.i.path) (del ((x.d.i.parent, x.d.i.name) : KD) y.cl)) := ⟨_, rfl⟩
  have h5 : St w0 (Blk K (.cells [.int .u64 (x.d.i.parent : Int), .string (strOf nm)].toArray 121 (0, 0)) * (NodeB x.n 0 (calledN x.d nm).i x.vk x.vb * (RowU x.vk x.ks * (BlksP x.vb x.P * ((StoreB b st rc s y * (MapP encU y.N (y.X.map kv) * (Mc * (RowU y.ov (s.L.map (·.i.path)) * starL nodeP (X1 ++ X2))))) * A))))) w4 := by
    rw [hMc]; exact h4
  have q1 : nodeP x' = NodeB x.n 0 (calledN x.d nm).i x.vk x.vb * (RowU x.vk x.ks * BlksP x.vb x.P) := by rw [hx']; rfl
  have q2 : (X1 ++ x' :: X2).map kv = y.X.map kv := by rw [hs, hx']; simp [kv, calledN]
  have q3 : (updN s.L x.d.i.path fun _ => calledN x.d nm).map (·.i.path) = s.L.map (·.i.path) := upd_paths rfl
  show St w0 (StoreB b st rc s y * (MapP encU y.N ((X1 ++ x' :: X2).map kv) * (MapP encK y.C (upd ((x.d.i.parent, nm) : KD) (u64V x.d.i.path) (del ((x.d.i.parent, x.d.i.name) : KD) y.cl)) * (RowU y.ov ((updN s.L x.d.i.path fun _ => calledN x.d nm).map (·.i.path)) * starL nodeP (X1 ++ x' :: X2)))) * A) w4
  rw [← hMc, q2, q3, starL_split, q1]
  exact (h5.right).ac (by ac_rfl)

end

theorem call_any [Gives A Tabs] (ok : StoreOk s y) (hs : y.X = X1 ++ x :: X2) (hnm : nm.length ≤ 4294967296) (hw : Wf (callF s x.d nm).1) (h : St w0 (StoreQ b st rc s y * A) w) :
    Calls Tryd.prog 67 #[.pointer (some ⟨b, 0, none⟩), .pointer (some ⟨x.n, 0, none⟩), .string (strOf nm)] w (TurnR w0 A b st rc (callF s x.d nm)) := by
  have hx : x ∈ y.X := by rw [hs]; simp
  have hdm : x.d ∈ s.L := ok.perm.mem_iff.1 (List.mem_map.2 ⟨x, hx, rfl⟩)
  have h0 := h.ac (StoreQ.eq hs)
  refine F67.calls (by simp) ?_
  unfold F67.code
  simp -dsimp -implicitDefEqProofs (disch := omega) only [go_sem, reqD_of, dec_t, dec_f, wrap_i64, wrap_u32, wrap_u64, wrap_u8, h0.cl x.n]
  refine onV_of (v := encK (x.d.i.parent, nm)) (by kernel_rfl) ?_
  simp -dsimp -implicitDefEqProofs (disch := omega) only [go_sem, reqD_of, dec_t, dec_f, wrap_i64, wrap_u32, wrap_u64, wrap_u8]
  refine h0.new fun K w1 h1 => ?_
  simp -dsimp -implicitDefEqProofs (disch := omega) only [go_sem, reqD_of, dec_t, dec_f, wrap_i64, wrap_u32, wrap_u64, wrap_u8]
  simp only [encK]
  refine h1.stoAll (b := K) (cs := [.int .u64 (x.d.i.parent : Int), .string (strOf nm)]) rfl rfl (by intro v hv; simp at hv; rcases hv with rfl | rfl <;> rfl) fun w2 h2 => ?_
  have hK := h2.drew.rowH K 2 rfl
  simp -dsimp -implicitDefEqProofs (disch := omega) only [go_sem, reqD_of, dec_t, dec_f, wrap_i64, wrap_u32, wrap_u64, wrap_u8, h2.drew.cl b, hK]
  refine h2.drew.lkH (b := y.C) (x := ((x.d.i.parent, nm) : KD)) Tryd.underlying94 lawK (z := .int .u64 0) (by kernel_rfl) ?_
  rw [ok.child]
  have hl : lkV (.int .u64 0) true ((childF s.L x.d.i.parent nm).map u64V) = .tuple #[u64V ((childF s.L x.d.i.parent nm).getD 0), .bool (childF s.L x.d.i.parent nm).isSome] := lkV_get (f := u64V) (d := 0) _
  rw [hl]
  have h3 : St w0 (Blk K (.cells [.int .u64 (x.d.i.parent : Int), .string (strOf nm)].toArray 121 (0, 0)) * (NodeB x.n 0 x.d.i x.vk x.vb * (RowU x.vk x.ks * (BlksP x.vb x.P * (StoreR b st rc s y (y.X.map kv) (X1 ++ X2) * A))))) w2.drew := h2.drew
  have err : ∀ (w' : World) (k : Nat), St w0 (Blk K (.cells [.int .u64 (x.d.i.parent : Int), .string (strOf nm)].toArray 121 (0, 0)) * (NodeB x.n 0 x.d.i x.vk x.vb * (RowU x.vk x.ks * (BlksP x.vb x.P * (StoreR b st rc s y (y.X.map kv) (X1 ++ X2) * A))))) w' →
      callF s x.d nm = (s, 0, k) → TurnR w0 A b st rc (callF s x.d nm) (.returned (.tuple #[.int .u64 0, .int .i64 k])) w' := fun w' k h hm => by
    rw [hm]
    exact ⟨y, ok, h.right.ac (StoreQ.eq hs).symm, rfl⟩
  by_cases c1 : (x.d.i.path : Int) = 1
  · simp -dsimp -implicitDefEqProofs (disch := omega) only [go_sem, reqD_of, dec_t, dec_f, wrap_i64, wrap_u32, wrap_u64, wrap_u8, c1]
    exact err _ 81 h3 (by unfold callF; rw [if_pos (by omega)])
  have h1' : x.d.i.path ≠ 1 := by omega
  simp -dsimp -implicitDefEqProofs (disch := omega) only [go_sem, reqD_of, dec_t, dec_f, wrap_i64, wrap_u32, wrap_u64, wrap_u8, c1]
  refine (check_any h3 (Nat.le_trans hnm (by omega))).mono ?_
  rintro e w4 ⟨h4, rfl⟩
  cases g5 : okName nm
  case false =>
    simp only [Bool.false_eq_true, if_false]
    simp -dsimp -implicitDefEqProofs (disch := omega) only [go_sem, reqD_of, dec_t, dec_f, wrap_i64, wrap_u32, wrap_u64, wrap_u8]
    exact err _ 50 h4 (by unfold callF; rw [if_neg h1', if_pos (by simp [g5])])
  simp only [if_true]
  have good : ∀ (hq : childF s.L x.d.i.parent nm = none ∨ childF s.L x.d.i.parent nm = some x.d.i.path), callF s x.d nm = ({ s with L := updN s.L x.d.i.path fun _ => calledN x.d nm }, x.d.i.path, 0) := fun hq => by
    have e : (updN s.L x.d.i.path fun n => ⟨{ n.i with name := nm }, n.b⟩) = updN s.L x.d.i.path fun _ => calledN x.d nm := upd_fun ok.wf.rise hdm (fun n => ⟨{ n.i with name := nm }, n.b⟩)
    unfold callF
    rw [if_neg h1', if_neg (by simp [g5])]
    rcases hq with hq | hq
    · rw [hq]; simp only; rw [e]
    · rw [hq]; simp only [if_true]; rw [e]
  cases hc : childF s.L x.d.i.parent nm with
  | none =>
    rw [good (.inl hc)] at hw ⊢
    simp only [Option.isSome_none, Option.getD_none]
    simp -dsimp -implicitDefEqProofs (disch := omega) only [go_sem, reqD_of, dec_t, dec_f, wrap_i64, wrap_u32, wrap_u64, wrap_u8, c1]
    exact call_t10 ok hs h1' hw h4 (by simp -dsimp -implicitDefEqProofs only [go_sem]) (by simp -dsimp -implicitDefEqProofs only [go_sem]) (by simp -dsimp -implicitDefEqProofs only [go_sem]) (by simp -dsimp -implicitDefEqProofs only [go_sem]) (by simp -dsimp -implicitDefEqProofs only [go_sem]) (by simp -dsimp -implicitDefEqProofs only [go_sem])
  | some q =>
    simp only [Option.isSome_some, Option.getD_some]
    by_cases c2 : (q : Int) = (x.d.i.path : Int)
    · have : q = x.d.i.path := by omega
      subst this
      rw [good (.inr hc)] at hw ⊢
      simp -dsimp -implicitDefEqProofs (disch := omega) only [go_sem, reqD_of, dec_t, dec_f, wrap_i64, wrap_u32, wrap_u64, wrap_u8, c1]
      exact call_t10 ok hs h1' hw h4 (by simp -dsimp -implicitDefEqProofs only [go_sem]) (by simp -dsimp -implicitDefEqProofs only [go_sem]) (by simp -dsimp -implicitDefEqProofs only [go_sem]) (by simp -dsimp -implicitDefEqProofs only [go_sem]) (by simp -dsimp -implicitDefEqProofs only [go_sem]) (by simp -dsimp -implicitDefEqProofs only [go_sem])
    · simp -dsimp -implicitDefEqProofs (disch := omega) only [go_sem, reqD_of, dec_t, dec_f, wrap_i64, wrap_u32, wrap_u64, wrap_u8, c1, c2]
      exact err _ 82 h4 (by unfold callF; rw [if_neg h1', if_neg (by simp [g5]), hc]; simp only; rw [if_neg (by omega)])
end
end Go.Proofs.YtijnmokpihhhcaaDoor

namespace Go.Proofs.YtijnmokpihhhcaaDoor
open Go
set_option linter.unusedVariables false
set_option linter.unusedSimpArgs false
set_option maxRecDepth 100000

section
variable {w0 w : World} {A : HP} {b B K : Nat} {s : SD} {y : SX} {X1 X2 : List NN} {x : NN} {o : OpD} {vd : Value} {e : FA} {R : Ending → World → Prop}

theorem doF_turn {d : NodeD} (hk : 1 ≤ o.kind ∧ o.kind ≤ 3) (hf : findN s.L o.path = some d) : doF s o = if o.kind = 1 then makeF s d o.node else if o.kind = 2 then delF s d else callF s d o.name := by
  unfold doF
  rw [if_neg (by omega), hf]
  simp only
  split
  · rfl
  split
  · rfl
  · rw [if_pos (by omega)]

section
attribute [local go_sem] F40.t11_eq F40.t6_eq
theorem turn_any [Gives A Tabs] (hin : OpIn o) (hk : 1 ≤ o.kind ∧ o.kind ≤ 3) (hnext : s.next < 9223372036854775808) (h : St w0 (StoreP b 0 0 s * A) w) :
    Calls Tryd.prog 40 #[.pointer (some ⟨b, 0, none⟩), .agg (opL o vd).toArray] w fun e w' => St w0 (StoreP b 0 0 (doF s o).1 * A) w' ∧ e = .returned (.tuple #[.int .u64 (doF s o).2.1, .int .i64 (doF s o).2.2]) := by
  obtain ⟨y, ok, h⟩ := h.storeO
  have hwf := do_wf ok.wf hin.ok
  refine calls_of_cwM (types := Tryd.prog.types) follows Tryd.func40 F40.code rfl (by kernel_rfl) (by show 2 ≤ 48; decide) ?_
  show cwE _ _ (fnM _ #[.tmp 4, .tmp 5] _) _ _
  unfold F40.code
  simp -dsimp -implicitDefEqProofs (disch := omega) only [go_sem, reqD_of, dec_t, dec_f, wrap_i64, wrap_u32, wrap_u64, wrap_u8]
  refine h.new fun B w1 h1 => ?_
  have h1 : St w0 (StoreQ b 0 0 s y * (opB B o vd * A)) w1 := h1.sw2
  simp -dsimp -implicitDefEqProofs (disch := omega) only [go_sem, reqD_of, dec_t, dec_f, wrap_i64, wrap_u32, wrap_u64, wrap_u8]
  refine (wlockS h1).mono ?_
  rintro e w2 ⟨h2, rfl⟩
  simp -dsimp -implicitDefEqProofs (disch := omega) only [go_sem, reqD_of, dec_t, dec_f, wrap_i64, wrap_u32, wrap_u64, wrap_u8]
  refine deferF_of ?_
  simp -dsimp -implicitDefEqProofs (disch := omega) only [go_sem, reqD_of, dec_t, dec_f, wrap_i64, wrap_u32, wrap_u64, wrap_u8, h2.drew.cl b, h2.drew.cl B]
  refine h2.drew.lkH (b := y.N) (x := (o.path : Int)) Tryd.underlying93 lawU zero_ptr ?_
  have fin : ∀ (y' : SX) (r : SD × Nat × Nat) (w' : World) (e : FA), StoreOk r.1 y' → St w0 (StoreQ b 1 (-1073741824) r.1 y' * (opB B o vd * A)) w' → doF s o = r → e.ρ 4 = .int .u64 r.2.1 → e.ρ 5 = .int .i64 r.2.2 →
      leaveD Tryd.prog [{ target := .fn (.func 53) #[], args := #[.pointer (some ⟨b, 0, none⟩)] }] .returning w' (endM Tryd.prog #[.tmp 4, .tmp 5] e fun e w' => St w0 (StoreP b 0 0 (doF s o).1 * A) w' ∧ e = .returned (.tuple #[.int .u64 (doF s o).2.1, .int .i64 (doF s o).2.2])) := fun y' r w' e ok' h' hr e4 e5 => by
    refine wunlockS h' fun w7 h7 => ?_
    refine endT2 ?_
    rw [e4, e5, hr]
    exact ⟨h7.drop2.ent (Ent.sep (StoreP.shut ok') (Ent.rfl' A)), rfl⟩
  cases hf : findN s.L o.path with
  | none =>
    rw [ok.none hf]
    have hr : doF s o = (s, 0, 80) := by unfold doF; rw [if_neg (by omega), hf]
    simp -dsimp -implicitDefEqProofs (disch := omega) only [go_sem, reqD_of, dec_t, dec_f, wrap_i64, wrap_u32, wrap_u64, wrap_u8, lkV]
    exact fin y (s, 0, 80) _ _ ok h2.drew hr (by simp -dsimp -implicitDefEqProofs only [go_sem]) (by simp -dsimp -implicitDefEqProofs only [go_sem])
  | some d =>
    obtain ⟨X1, x, X2, hs, rfl, hx, hl⟩ := ok.some hf
    rw [hl]
    have hr := doF_turn (s := s) (o := o) hk hf
    have h3 := h2.drew
    rcases Nat.lt_or_ge o.kind 2 with hk1 | hk1
    · have k1 : (o.kind : Int) = 1 := by omega
      rw [if_pos (by omega)] at hr
      have hrow := h3.rowAtH B 4 13 (by simp)
      simp only [List.drop_succ_cons, List.drop_zero, List.take_succ_cons, List.take_zero] at hrow
      simp -dsimp -implicitDefEqProofs (disch := omega) only [go_sem, reqD_of, dec_t, dec_f, wrap_i64, wrap_u32, wrap_u64, wrap_u8, lkV, h3.cl B, k1, hrow]
      rw [hr] at hwf
      refine (makes_any (t := o.node) ok hs ⟨hin.ok.mode, hin.nname, hin.uid, hin.gid, hin.muid⟩ hnext hwf h3).mono ?_
      rintro e w5 ⟨y', ok', h5, rfl⟩
      simp -dsimp -implicitDefEqProofs (disch := omega) only [go_sem, reqD_of, dec_t, dec_f, wrap_i64, wrap_u32, wrap_u64, wrap_u8]
      exact fin y' _ _ _ ok' h5 hr (by simp -dsimp -implicitDefEqProofs only [go_sem]) (by simp -dsimp -implicitDefEqProofs only [go_sem])
    have k1 : ¬ (o.kind : Int) = 1 := by omega
    rw [if_neg (by omega)] at hr
    rcases Nat.lt_or_ge o.kind 3 with hk2 | hk2
    · have k2 : (o.kind : Int) = 2 := by omega
      rw [if_pos (by omega)] at hr
      simp -dsimp -implicitDefEqProofs (disch := omega) only [go_sem, reqD_of, dec_t, dec_f, wrap_i64, wrap_u32, wrap_u64, wrap_u8, lkV, h3.cl B, k1, k2]
      rw [hr] at hwf
      refine (drop_any ok hs hwf h3).mono ?_
      rintro e w5 ⟨y', ok', h5, rfl⟩
      simp -dsimp -implicitDefEqProofs (disch := omega) only [go_sem, reqD_of, dec_t, dec_f, wrap_i64, wrap_u32, wrap_u64, wrap_u8]
      exact fin y' _ _ _ ok' h5 hr (by simp -dsimp -implicitDefEqProofs only [go_sem]) (by simp -dsimp -implicitDefEqProofs only [go_sem])
    have k2 : ¬ (o.kind : Int) = 2 := by omega
    rw [if_neg (by omega)] at hr
    simp -dsimp -implicitDefEqProofs (disch := omega) only [go_sem, reqD_of, dec_t, dec_f, wrap_i64, wrap_u32, wrap_u64, wrap_u8, lkV, h3.cl B, k1, k2]
    rw [hr] at hwf
    refine (call_any ok hs hin.name hwf h3).mono ?_
    rintro e w5 ⟨y', ok', h5, rfl⟩
    simp -dsimp -implicitDefEqProofs (disch := omega) only [go_sem, reqD_of, dec_t, dec_f, wrap_i64, wrap_u32, wrap_u64, wrap_u8]
    exact fin y' _ _ _ ok' h5 hr (by simp -dsimp -implicitDefEqProofs only [go_sem]) (by simp -dsimp -implicitDefEqProofs only [go_sem])

end
section
attribute [local go_sem] F20.t2_eq F20.t6_eq F20.t30_eq F20.t28_eq F20.t11_eq
theorem do_t11 [Gives A Tabs] [Gives A (RdB vd o.data)] (hin : OpIn o) (hk : 4 ≤ o.kind ∧ o.kind ≤ 7) (h : St w0 (StoreP b 0 0 s * (opB B o vd * A)) w)
    (hd : e.ds = []) (e0 : e.ρ 0 = .pointer (some ⟨b, 0, none⟩)) (e3 : e.ρ 3 = .pointer (some ⟨B, 0, none⟩))
    (hR : ∀ w', St w0 (StoreP b 0 0 (doF s o).1 * A) w' → R (.returned (.tuple #[.int .u64 (doF s o).2.1, .int .i64 (doF s o).2.2])) w') :
    cwE Tryd.prog F20.t11 (fnM Tryd.prog #[.tmp 4, .tmp 5] R) e w := by
  obtain ⟨y, ok, h⟩ := h.storeO
  rw [F20.t11_eq]
  simp -dsimp -implicitDefEqProofs (disch := omega) only [go_sem, reqD_of, dec_t, dec_f, wrap_i64, wrap_u32, wrap_u64, wrap_u8, hd, e0, e3]
  refine (rlockS h).mono ?_
  rintro e' w1 ⟨h1, rfl⟩
  simp -dsimp -implicitDefEqProofs (disch := omega) only [go_sem, reqD_of, dec_t, dec_f, wrap_i64, wrap_u32, wrap_u64, wrap_u8, hd, e0, e3]
  refine deferF_of ?_
  simp -dsimp -implicitDefEqProofs (disch := omega) only [go_sem, reqD_of, dec_t, dec_f, wrap_i64, wrap_u32, wrap_u64, wrap_u8, hd, e0, e3, h1.drew.cl b, h1.drew.cl B]
  refine h1.drew.lkH (b := y.N) (x := (o.path : Int)) Tryd.underlying93 lawU zero_ptr ?_
  cases hf : findN s.L o.path with
  | none =>
    rw [ok.none hf]
    have hr : doF s o = (s, 0, 80) := by unfold doF; rw [if_neg (by omega), hf]
    rw [hr] at hR
    simp -dsimp -implicitDefEqProofs (disch := omega) only [go_sem, reqD_of, dec_t, dec_f, wrap_i64, wrap_u32, wrap_u64, wrap_u8, lkV, hd, e0, e3]
    refine runlockS h1.drew fun w2 h2 => ?_
    refine endT2 ?_
    have := hR w2 (h2.drop2.ent (Ent.sep (StoreP.shut ok) (Ent.rfl' A)))
    simp -dsimp -implicitDefEqProofs only [go_sem]
    exact this
  | some d =>
    obtain ⟨X1, x, X2, hs, rfl, hx, hl⟩ := ok.some hf
    rw [hl]
    simp -dsimp -implicitDefEqProofs (disch := omega) only [go_sem, reqD_of, dec_t, dec_f, wrap_i64, wrap_u32, wrap_u64, wrap_u8, lkV, hd, e0, e3]
    exact do_t16 (vd := vd) (B := B) hin hk ok hs hf (h1.drew.ac (StoreQ.eq hs)) (by simp -dsimp -implicitDefEqProofs only [go_sem, hd, e0]) (by simp -dsimp -implicitDefEqProofs only [go_sem, e3]) (by simp -dsimp -implicitDefEqProofs only [go_sem]) hR

end
section
attribute [local go_sem] F20.t2_eq F20.t6_eq F20.t30_eq F20.t28_eq F20.t16_eq
theorem do_any [Gives A Tabs] [Gives A (RdB vd o.data)] (hin : OpIn o) (hkind : o.kind < 256) (hnext : s.next < 9223372036854775808) (h : St w0 (StoreP b 0 0 s * A) w) :
    Calls Tryd.prog 20 #[.pointer (some ⟨b, 0, none⟩), .agg (opL o vd).toArray] w fun e w' => St w0 (StoreP b 0 0 (doF s o).1 * A) w' ∧ e = .returned (.tuple #[.int .u64 (doF s o).2.1, .int .i64 (doF s o).2.2]) := by
  refine calls_of_cwM (types := Tryd.prog.types) follows Tryd.func20 F20.code rfl (by kernel_rfl) (by show 2 ≤ 82; decide) ?_
  show cwE _ _ (fnM _ #[.tmp 4, .tmp 5] _) _ _
  unfold F20.code
  simp -dsimp -implicitDefEqProofs (disch := omega) only [go_sem, reqD_of, dec_t, dec_f, wrap_i64, wrap_u32, wrap_u64, wrap_u8]
  refine h.new fun B w1 h1 => ?_
  have h1 : St w0 (StoreP b 0 0 s * (opB B o vd * A)) w1 := h1.sw2
  have hrow := h1.rowH B 20 rfl
  by_cases hk : 1 ≤ o.kind ∧ o.kind ≤ 3
  · have turn : ∀ (R : Ending → World → Prop), (∀ w', St w0 (StoreP b 0 0 (doF s o).1 * A) w' → R (.returned (.tuple #[.int .u64 (doF s o).2.1, .int .i64 (doF s o).2.2])) w') → Calls Tryd.prog 40 #[.pointer (some ⟨b, 0, none⟩), .agg (opL o vd).toArray] w1 R := fun R hR => by
      refine (turn_any (vd := vd) hin hk hnext h1).mono ?_
      rintro e w2 ⟨h2, rfl⟩
      exact hR _ h2.drop2
    rcases (by omega : o.kind = 1 ∨ o.kind = 2 ∨ o.kind = 3) with k | k | k
    · have k1 : (o.kind : Int) = 1 := by omega
      simp -dsimp -implicitDefEqProofs (disch := omega) only [go_sem, reqD_of, dec_t, dec_f, wrap_i64, wrap_u32, wrap_u64, wrap_u8, h1.cl B, k1, hrow]
      refine (turn_any (vd := vd) hin hk hnext h1).mono ?_
      rintro e w2 ⟨h2, rfl⟩
      simp -dsimp -implicitDefEqProofs (disch := omega) only [go_sem, reqD_of, dec_t, dec_f, wrap_i64, wrap_u32, wrap_u64, wrap_u8]
      refine endT2 ?_
      simp -dsimp -implicitDefEqProofs only [go_sem]
      exact h2.drop2
    · have k1 : ¬ (o.kind : Int) = 1 := by omega
      have k2 : (o.kind : Int) = 2 := by omega
      simp -dsimp -implicitDefEqProofs (disch := omega) only [go_sem, reqD_of, dec_t, dec_f, wrap_i64, wrap_u32, wrap_u64, wrap_u8, h1.cl B, k1, k2, hrow]
      refine (turn_any (vd := vd) hin hk hnext h1).mono ?_
      rintro e w2 ⟨h2, rfl⟩
      simp -dsimp -implicitDefEqProofs (disch := omega) only [go_sem, reqD_of, dec_t, dec_f, wrap_i64, wrap_u32, wrap_u64, wrap_u8]
      refine endT2 ?_
      simp -dsimp -implicitDefEqProofs only [go_sem]
      exact h2.drop2
    · have k1 : ¬ (o.kind : Int) = 1 := by omega
      have k2 : ¬ (o.kind : Int) = 2 := by omega
      have k3 : (o.kind : Int) = 3 := by omega
      simp -dsimp -implicitDefEqProofs (disch := omega) only [go_sem, reqD_of, dec_t, dec_f, wrap_i64, wrap_u32, wrap_u64, wrap_u8, h1.cl B, k1, k2, k3, hrow]
      refine (turn_any (vd := vd) hin hk hnext h1).mono ?_
      rintro e w2 ⟨h2, rfl⟩
      simp -dsimp -implicitDefEqProofs (disch := omega) only [go_sem, reqD_of, dec_t, dec_f, wrap_i64, wrap_u32, wrap_u64, wrap_u8]
      refine endT2 ?_
      simp -dsimp -implicitDefEqProofs only [go_sem]
      exact h2.drop2
  have k1 : ¬ (o.kind : Int) = 1 := by omega
  have k2 : ¬ (o.kind : Int) = 2 := by omega
  have k3 : ¬ (o.kind : Int) = 3 := by omega
  by_cases hk4 : 4 ≤ o.kind ∧ o.kind ≤ 7
  case neg =>
    have hr : doF s o = (s, 0, 1) := by unfold doF; rw [if_pos (by omega)]
    have k4 : ¬ (o.kind : Int) = 4 := by omega
    have k5 : ¬ (o.kind : Int) = 5 := by omega
    have k6 : ¬ (o.kind : Int) = 6 := by omega
    have k7 : ¬ (o.kind : Int) = 7 := by omega
    rw [hr]
    simp -dsimp -implicitDefEqProofs (disch := omega) only [go_sem, reqD_of, dec_t, dec_f, wrap_i64, wrap_u32, wrap_u64, wrap_u8, h1.cl B, k1, k2, k3, k4, k5, k6, k7]
    refine endT2 ?_
    simp -dsimp -implicitDefEqProofs only [go_sem]
    exact h1.drop2
  have go : ∀ (e : FA), e.ds = [] → e.ρ 0 = .pointer (some ⟨b, 0, none⟩) → e.ρ 3 = .pointer (some ⟨B, 0, none⟩) → cwE Tryd.prog F20.t11 (fnM Tryd.prog #[.tmp 4, .tmp 5] fun e w' => St w0 (StoreP b 0 0 (doF s o).1 * A) w' ∧ e = .returned (.tuple #[.int .u64 (doF s o).2.1, .int .i64 (doF s o).2.2])) e w1 := fun e hd e0 e3 =>
    do_t11 hin hk4 h1 hd e0 e3 fun w' h' => ⟨h', rfl⟩
  rcases (by omega : o.kind = 4 ∨ o.kind = 5 ∨ o.kind = 6 ∨ o.kind = 7) with k | k | k | k
  · have k4 : (o.kind : Int) = 4 := by omega
    simp -dsimp -implicitDefEqProofs (disch := omega) only [go_sem, reqD_of, dec_t, dec_f, wrap_i64, wrap_u32, wrap_u64, wrap_u8, h1.cl B, k1, k2, k3, k4]
    exact go _ (by simp -dsimp -implicitDefEqProofs only [go_sem]) (by simp -dsimp -implicitDefEqProofs only [go_sem]) (by simp -dsimp -implicitDefEqProofs only [go_sem])
  · have k4 : ¬ (o.kind : Int) = 4 := by omega
    have k5 : (o.kind : Int) = 5 := by omega
    simp -dsimp -implicitDefEqProofs (disch := omega) only [go_sem, reqD_of, dec_t, dec_f, wrap_i64, wrap_u32, wrap_u64, wrap_u8, h1.cl B, k1, k2, k3, k4, k5]
    exact go _ (by simp -dsimp -implicitDefEqProofs only [go_sem]) (by simp -dsimp -implicitDefEqProofs only [go_sem]) (by simp -dsimp -implicitDefEqProofs only [go_sem])
  · have k4 : ¬ (o.kind : Int) = 4 := by omega
    have k5 : ¬ (o.kind : Int) = 5 := by omega
    have k6 : (o.kind : Int) = 6 := by omega
    simp -dsimp -implicitDefEqProofs (disch := omega) only [go_sem, reqD_of, dec_t, dec_f, wrap_i64, wrap_u32, wrap_u64, wrap_u8, h1.cl B, k1, k2, k3, k4, k5, k6]
    exact go _ (by simp -dsimp -implicitDefEqProofs only [go_sem]) (by simp -dsimp -implicitDefEqProofs only [go_sem]) (by simp -dsimp -implicitDefEqProofs only [go_sem])
  · have k4 : ¬ (o.kind : Int) = 4 := by omega
    have k5 : ¬ (o.kind : Int) = 5 := by omega
    have k6 : ¬ (o.kind : Int) = 6 := by omega
    have k7 : (o.kind : Int) = 7 := by omega
    simp -dsimp -implicitDefEqProofs (disch := omega) only [go_sem, reqD_of, dec_t, dec_f, wrap_i64, wrap_u32, wrap_u64, wrap_u8, h1.cl B, k1, k2, k3, k4, k5, k6, k7]
    exact go _ (by simp -dsimp -implicitDefEqProofs only [go_sem]) (by simp -dsimp -implicitDefEqProofs only [go_sem]) (by simp -dsimp -implicitDefEqProofs only [go_sem])
end
end
end Go.Proofs.YtijnmokpihhhcaaDoor

namespace Go.Proofs.YtijnmokpihhhcaaDoor
open Go
set_option linter.unusedVariables false
set_option linter.unusedSimpArgs false
set_option maxRecDepth 100000

/-- A configuration. -/
structure CfgD where
  users : List UInt8
  owner : List UInt8
  group : List UInt8
  perm : Nat
  v4 : Int
  v5 : Int
  v6 : Int
  v7 : Int
  nodes : Int
  v9 : Int
abbrev cfgL (c : CfgD) : List Value := [.string (strOf c.users), .string (strOf c.owner), .string (strOf c.group), .int .u32 c.perm, .int .u64 c.v4, .int .u32 c.v5, .int .i64 c.v6, .int .i64 c.v7, .int .i64 c.nodes, .int .i64 c.v9]
def rootD (c : CfgD) : NodeD := ⟨⟨1, 1, [47], 2147483648 ||| c.perm, c.owner, c.group, c.owner, 0, 0, 0, 0, 0, 0⟩, []⟩
def newF (c : CfgD) : Except Nat SD :=
  if c.nodes < 1 ∨ 4096 < c.nodes ∨ ¬ c.perm &&& 4294966784 = 0 then .error 1
  else if c.owner = [] ∨ c.group = [] ∨ userF c.owner = false ∨ userF c.group = false then .error 1
  else .ok ⟨c.nodes.toNat, 2, [rootD c]⟩
structure CfgIn (c : CfgD) : Prop where
  perm : c.perm < 4294967296
  n0 : -9223372036854775808 ≤ c.nodes
  n1 : c.nodes ≤ 9223372036854775807
  owner : c.owner.length ≤ 4294967296
  group : c.group.length ≤ 4294967296

theorem bPerm {P : Program} {T : TypeId} {m : Nat} (hm : m < 4294967296) : binV P .andNot T (.int .u32 m) (.int .u32 511) = some (.int .u32 ((m &&& 4294966784 : Nat) : Int)) := by
  rw [bNot32 hm (by omega)]
  rfl
theorem bDirO {P : Program} {T : TypeId} {m : Nat} (hm : m < 4294967296) : binV P .or T (.int .u32 2147483648) (.int .u32 m) = some (.int .u32 ((2147483648 ||| m : Nat) : Int)) := by
  rw [bOr32 hm (by omega)]
  rfl

theorem root_wf {c : CfgD} (hc : CfgIn c) (h1 : ¬ (c.nodes < 1 ∨ 4096 < c.nodes)) (g1 : userF c.owner = true) (g2 : userF c.group = true) : Wf ⟨c.nodes.toNat, 2, [rootD c]⟩ := by
  have hm : 2147483648 ||| c.perm < 4294967296 := Nat.or_lt_two_pow (n := 32) (by decide) hc.perm
  have hd : dirF (2147483648 ||| c.perm) = true := by unfold dirF; exact decide_eq_true Nat.left_le_or
  have u1 := userF_len g1
  have u2 := userF_len g2
  refine ⟨?_, by simp, ?_, ⟨rootD c, rfl, rfl, hd⟩, ?_, ?_, by simp; omega, by simp; omega⟩
  · intro n hn
    simp only [List.mem_cons, List.not_mem_nil, or_false] at hn
    subst hn
    exact ⟨rfl, by simp [rootD], rfl, hm, by simp [rootD], by simp [rootD], by simp [rootD], by simp [rootD], by simp [rootD], fun _ => rfl, by simp [rootD], u1, u2, u1⟩
  · intro n hn
    simp only [List.mem_cons, List.not_mem_nil, or_false] at hn
    subst hn
    exact ⟨by simp [rootD], by simp [rootD]⟩
  · intro n hn h
    simp only [List.mem_cons, List.not_mem_nil, or_false] at hn
    subst hn
    exact absurd rfl h
  · intro a ha b hb h
    simp only [List.mem_cons, List.not_mem_nil, or_false] at ha
    subst ha
    exact absurd rfl h

section
variable {w0 w : World} {A : HP} {c : CfgD}
section
attribute [local go_sem] F13.t5_eq F13.t3_eq
theorem new_any [Gives A Tabs] (hc : CfgIn c) (h : St w0 A w) :
    Calls Tryd.prog 13 #[.agg (cfgL c).toArray] w fun e w' => match newF c with
      | .error k => St w0 A w' ∧ e = .returned (.tuple #[.pointer none, .int .i64 k])
      | .ok s => ∃ b, St w0 (StoreP b 0 0 s * A) w' ∧ e = .returned (.tuple #[.pointer (some ⟨b, 0, none⟩), .int .i64 0]) := by
  refine F13.calls (by simp) ?_
  unfold F13.code
  simp -dsimp -implicitDefEqProofs (disch := omega) only [go_sem, reqD_of, dec_t, dec_f, wrap_i64, wrap_u32, wrap_u64, wrap_u8]
  refine h.new fun B w1 h1 => ?_
  have hp := bPerm (P := Tryd.prog) (T := 29) hc.perm
  by_cases c1 : c.nodes < 1
  · have hr : newF c = .error 1 := by unfold newF; rw [if_pos (.inl c1)]
    rw [hr]
    simp -dsimp -implicitDefEqProofs (disch := omega) only [go_sem, reqD_of, dec_t, dec_f, wrap_i64, wrap_u32, wrap_u64, wrap_u8, h1.cl B, c1, hp]
    exact h1.right
  by_cases c2 : 4096 < c.nodes
  · have hr : newF c = .error 1 := by unfold newF; rw [if_pos (.inr (.inl c2))]
    rw [hr]
    simp -dsimp -implicitDefEqProofs (disch := omega) only [go_sem, reqD_of, dec_t, dec_f, wrap_i64, wrap_u32, wrap_u64, wrap_u8, h1.cl B, c1, c2, hp]
    exact h1.right
  by_cases c3 : ((c.perm &&& 4294966784 : Nat) : Int) = 0
  case neg =>
    have hr : newF c = .error 1 := by unfold newF; rw [if_pos (.inr (.inr (by omega)))]
    rw [hr]
    simp -dsimp -implicitDefEqProofs (disch := omega) only [go_sem, reqD_of, dec_t, dec_f, wrap_i64, wrap_u32, wrap_u64, wrap_u8, h1.cl B, c1, c2, hp, c3]
    exact h1.right
  have hn1 : ¬ (c.nodes < 1 ∨ 4096 < c.nodes ∨ ¬ c.perm &&& 4294966784 = 0) := by omega
  by_cases c4 : c.owner = []
  · have hr : newF c = .error 1 := by unfold newF; rw [if_neg hn1, if_pos (.inl c4)]
    rw [hr]
    have e4 : decide (c.owner = []) = true := decide_eq_true c4
    simp -dsimp -implicitDefEqProofs (disch := omega) only [go_sem, reqD_of, dec_t, dec_f, wrap_i64, wrap_u32, wrap_u64, wrap_u8, h1.cl B, c1, c2, hp, c3, e4]
    exact h1.right
  by_cases c5 : c.group = []
  · have hr : newF c = .error 1 := by unfold newF; rw [if_neg hn1, if_pos (.inr (.inl c5))]
    rw [hr]
    have e5 : decide (c.group = []) = true := decide_eq_true c5
    simp -dsimp -implicitDefEqProofs (disch := omega) only [go_sem, reqD_of, dec_t, dec_f, wrap_i64, wrap_u32, wrap_u64, wrap_u8, h1.cl B, c1, c2, hp, c3, c4, e5]
    exact h1.right
  simp -dsimp -implicitDefEqProofs (disch := omega) only [go_sem, reqD_of, dec_t, dec_f, wrap_i64, wrap_u32, wrap_u64, wrap_u8, h1.cl B, c1, c2, hp, c3, c4, c5]
  refine (mayUser_any h1 (Nat.le_trans hc.owner (by omega))).mono ?_
  rintro e w2 ⟨h2, rfl⟩
  cases g1 : userF c.owner
  case false =>
    have hr : newF c = .error 1 := by unfold newF; rw [if_neg hn1, if_pos (.inr (.inr (.inl g1)))]
    rw [hr]
    simp -dsimp -implicitDefEqProofs (disch := omega) only [go_sem, reqD_of, dec_t, dec_f, wrap_i64, wrap_u32, wrap_u64, wrap_u8]
    exact h2.right
  simp -dsimp -implicitDefEqProofs (disch := omega) only [go_sem, reqD_of, dec_t, dec_f, wrap_i64, wrap_u32, wrap_u64, wrap_u8, h2.cl B]
  refine (mayUser_any h2 (Nat.le_trans hc.group (by omega))).mono ?_
  rintro e w3 ⟨h3, rfl⟩
  cases g2 : userF c.group
  case false =>
    have hr : newF c = .error 1 := by unfold newF; rw [if_neg hn1, if_pos (.inr (.inr (.inr g2)))]
    rw [hr]
    simp -dsimp -implicitDefEqProofs (disch := omega) only [go_sem, reqD_of, dec_t, dec_f, wrap_i64, wrap_u32, wrap_u64, wrap_u8]
    exact h3.right
  have hr : newF c = .ok ⟨c.nodes.toNat, 2, [rootD c]⟩ := by
    unfold newF
    rw [if_neg hn1, if_neg (by simp [c4, c5, g1, g2])]
  rw [hr]
  have ho := bDirO (P := Tryd.prog) (T := 29) hc.perm
  simp -dsimp -implicitDefEqProofs (disch := omega) only [go_sem, reqD_of, dec_t, dec_f, wrap_i64, wrap_u32, wrap_u64, wrap_u8, h3.cl B, ho]
  refine onV_of (v := .agg (infL (rootD c).i).toArray) (by kernel_rfl) ?_
  simp -dsimp -implicitDefEqProofs (disch := omega) only [go_sem, reqD_of, dec_t, dec_f, wrap_i64, wrap_u32, wrap_u64, wrap_u8]
  refine onV_of (v := .agg (nodeC 0 (rootD c).i (.slice none 0 0) (.slice none 0 0))) (by kernel_rfl) ?_
  simp -dsimp -implicitDefEqProofs (disch := omega) only [go_sem, reqD_of, dec_t, dec_f, wrap_i64, wrap_u32, wrap_u64, wrap_u8]
  refine h3.new fun M w4 h4 => ?_
  simp -dsimp -implicitDefEqProofs (disch := omega) only [go_sem, reqD_of, dec_t, dec_f, wrap_i64, wrap_u32, wrap_u64, wrap_u8, h4.cl B]
  refine h4.makeMap (enc := encU) fun N w5 h5 => ?_
  simp -dsimp -implicitDefEqProofs (disch := omega) only [go_sem, reqD_of, dec_t, dec_f, wrap_i64, wrap_u32, wrap_u64, wrap_u8, h5.cl B]
  refine h5.updH (b := N) (x := (1 : Int)) Tryd.underlying93 lawU fun w6 h6 => ?_
  simp -dsimp -implicitDefEqProofs (disch := omega) only [go_sem, reqD_of, dec_t, dec_f, wrap_i64, wrap_u32, wrap_u64, wrap_u8, h6.cl B]
  refine h6.lit (t := 63) (n := 1) (cells := [u64V 1]) rowTy_u64 rfl (by decide) (by decide) fun v7 w7 h7 => ?_
  obtain ⟨a7, c7, rfl, _⟩ := h7.rowForm v7
  simp -dsimp -implicitDefEqProofs (disch := omega) only [go_sem, reqD_of, dec_t, dec_f, wrap_i64, wrap_u32, wrap_u64, wrap_u8, h7.cl B]
  refine h7.makeMap (enc := encK) fun C w8 h8 => ?_
  simp -dsimp -implicitDefEqProofs (disch := omega) only [go_sem, reqD_of, dec_t, dec_f, wrap_i64, wrap_u32, wrap_u64, wrap_u8, h8.cl B]
  refine onV_of (v := .agg (storeC 0 0 c.nodes.toNat 2 (.map (some N)) (.slice a7 1 c7) (.map (some C)))) ?_ ?_
  · have hn' : Value.int .i64 c.nodes = .int .i64 ((c.nodes.toNat : Nat) : Int) := by
      congr 1
      omega
    rw [hn']
    rfl
  simp -dsimp -implicitDefEqProofs (disch := omega) only [go_sem, reqD_of, dec_t, dec_f, wrap_i64, wrap_u32, wrap_u64, wrap_u8]
  refine h8.new fun b w9 h9 => ?_
  simp -dsimp -implicitDefEqProofs (disch := omega) only [go_sem, reqD_of, dec_t, dec_f, wrap_i64, wrap_u32, wrap_u64, wrap_u8]
  have hw := root_wf hc (by omega) g1 g2
  have ok : StoreOk ⟨c.nodes.toNat, 2, [rootD c]⟩ ⟨N, C, .slice a7 1 c7, [⟨rootD c, M, .slice none 0 0, .slice none 0 0, [], []⟩], []⟩ := by
    refine ⟨hw, List.Perm.refl _, fun z hz => ?_, fun z hz => ?_, fun dir nm => ?_⟩
    · simp only [List.mem_cons, List.not_mem_nil, or_false] at hz
      subst hz; rfl
    · simp only [List.mem_cons, List.not_mem_nil, or_false] at hz
      subst hz
      exact ⟨by simp, by simp, fun k _ => by simp [byteAt, rootD]⟩
    · have : isKid dir (rootD c) = false := by simp [isKid, rootD]
      simp [lk, childF, List.find?, this]
  have h10 := (h9.nilR 30 1).nilR 122 1
  have h11 := h10.ent (Ent.embL _)
  have h12 := h11.ent (Ent.embL _)
  have h13 : St w0 (Blk B (.cells (cfgL c).toArray 32 (0, 0)) * (Blk b (.cells (storeC 0 0 c.nodes.toNat 2 (.map (some N)) (.slice a7 1 c7) (.map (some C))) 101 (0, 0)) * (MapP encU N (upd (1 : Int) (.pointer (some ⟨M, 0, none⟩)) []) * (MapP encK C [] * (RowO 30 1 (.slice a7 1 c7) 1 [u64V 1] *
      (Blk M (.cells (nodeC 0 (rootD c).i (.slice none 0 0) (.slice none 0 0)) 92 (0, 0)) * (RowO 30 1 (.slice none 0 0) 0 [] * (RowO 122 1 (.slice none 0 0) 0 [] * EmpH)) * EmpH)))) * A)) w9 := h12.ac (by ac_rfl)
  have h14 : St w0 (StoreQ b 0 0 ⟨c.nodes.toNat, 2, [rootD c]⟩ ⟨N, C, .slice a7 1 c7, [⟨rootD c, M, .slice none 0 0, .slice none 0 0, [], []⟩], []⟩ * A) w9 := h13.right
  exact ⟨b, h14.ent (Ent.sep (StoreP.shut ok) (Ent.rfl' A)), rfl⟩
end
end
end Go.Proofs.YtijnmokpihhhcaaDoor

namespace Go.Proofs.YtijnmokpihhhcaaDoor
open Go
set_option linter.unusedVariables false
set_option linter.unusedSimpArgs false
set_option maxRecDepth 100000

abbrev ann : List UInt8 := [97, 110, 110]
abbrev staff : List UInt8 := [115, 116, 97, 102, 102]
def storeCfg (most : Int) : CfgD := ⟨[], ann, staff, 493, 0, 0, 0, 0, most, 0⟩
/-- A store of so many nodes at most. -/
def storeF (n : Nat) : SD := ⟨n, 2, [rootD (storeCfg n)]⟩
theorem storeCfg_in {most : Int} (h : -9223372036854775808 ≤ most ∧ most ≤ 9223372036854775807) : CfgIn (storeCfg most) := ⟨by show (493 : Nat) < _; decide, h.1, h.2, by show ann.length ≤ _; decide, by show staff.length ≤ _; decide⟩
theorem newF_store {n : Nat} (h : 1 ≤ n ∧ n ≤ 4096) : newF (storeCfg n) = .ok (storeF n) := by
  unfold newF
  have h0 : 493 &&& 4294966784 = 0 := by decide
  have g1 : userF ann = true := by decide
  have g2 : userF staff = true := by decide
  have e1 : ¬ ((storeCfg n).nodes < 1 ∨ 4096 < (storeCfg n).nodes ∨ ¬ (storeCfg n).perm &&& 4294966784 = 0) := by
    show ¬ ((n : Int) < 1 ∨ 4096 < (n : Int) ∨ ¬ 493 &&& 4294966784 = 0)
    rw [h0]; omega
  have e2 : ¬ ((storeCfg n).owner = [] ∨ (storeCfg n).group = [] ∨ userF (storeCfg n).owner = false ∨ userF (storeCfg n).group = false) := by
    show ¬ (ann = [] ∨ staff = [] ∨ userF ann = false ∨ userF staff = false)
    rw [g1, g2]; decide
  rw [if_neg e1, if_neg e2]
  rfl

section
variable {w0 w : World} {A : HP}
section
attribute [local go_sem] F19.t4_eq
theorem store_any [Gives A Tabs] {n : Nat} (hn : 1 ≤ n ∧ n ≤ 4096) (h : St w0 A w) :
    Calls Tryd.prog 19 #[.int .i64 n] w fun e w' => ∃ b, St w0 (StoreP b 0 0 (storeF n) * A) w' ∧ e = .returned (.pointer (some ⟨b, 0, none⟩)) := by
  refine F19.calls (by simp) ?_
  unfold F19.code
  simp -dsimp -implicitDefEqProofs (disch := omega) only [go_sem, reqD_of, dec_t, dec_f, wrap_i64, wrap_u32, wrap_u64, wrap_u8]
  refine onV_of (v := .agg (cfgL (storeCfg n)).toArray) (by kernel_rfl) ?_
  simp -dsimp -implicitDefEqProofs (disch := omega) only [go_sem, reqD_of, dec_t, dec_f, wrap_i64, wrap_u32, wrap_u64, wrap_u8]
  refine (new_any (c := storeCfg n) (storeCfg_in (by omega)) h).mono ?_
  intro e w1 hq
  rw [newF_store hn] at hq
  obtain ⟨b, h1, rfl⟩ := hq
  simp -dsimp -implicitDefEqProofs (disch := omega) only [go_sem, reqD_of, dec_t, dec_f, wrap_i64, wrap_u32, wrap_u64, wrap_u8]
  exact ⟨b, h1, rfl⟩

/-- An operation: a new node. -/
def makF (p : Nat) (nm : List UInt8) (m : Nat) : OpD := ⟨1, p, nm.take 0, 0, ⟨0, 0, nm, m, ann, staff, ann, 0, 0, 0, 0, 0, 0⟩, 0, [], 0⟩
end

theorem mak_any (h : St w0 A w) {p m : Nat} {nm : List UInt8} :
    Calls Tryd.prog 21 #[.int .u64 p, .string (strOf nm), .int .u32 m] w fun e w' => St w0 A w' ∧ e = .returned (.agg (opL (makF p nm m) (.slice none 0 0)).toArray) := by
  refine F21.calls (by simp) ?_
  unfold F21.code
  simp -dsimp -implicitDefEqProofs (disch := omega) only [go_sem, reqD_of, dec_t, dec_f, wrap_i64, wrap_u32, wrap_u64, wrap_u8]
  refine h.new fun B w1 h1 => ?_
  simp -dsimp -implicitDefEqProofs (disch := omega) only [go_sem, reqD_of, dec_t, dec_f, wrap_i64, wrap_u32, wrap_u64, wrap_u8]
  refine onV_of (v := .agg (infL (makF p nm m).node).toArray) (by kernel_rfl) ?_
  simp -dsimp -implicitDefEqProofs (disch := omega) only [go_sem, reqD_of, dec_t, dec_f, wrap_i64, wrap_u32, wrap_u64, wrap_u8]
  refine onV_of (v := .agg (opL (makF p nm m) (.slice none 0 0)).toArray) (by kernel_rfl) ?_
  simp -dsimp -implicitDefEqProofs (disch := omega) only [go_sem, reqD_of, dec_t, dec_f, wrap_i64, wrap_u32, wrap_u64, wrap_u8]
  refine h1.stoAll (b := B) (cs := opL (makF p nm m) (.slice none 0 0)) rfl rfl (by intro v hv; simp only [opL, List.mem_cons, List.not_mem_nil, or_false] at hv; rcases hv with rfl | rfl | rfl | rfl | rfl | rfl | rfl | rfl | rfl | rfl | rfl | rfl | rfl | rfl | rfl | rfl | rfl | rfl | rfl | rfl <;> rfl) fun w2 h2 => ?_
  simp -dsimp -implicitDefEqProofs (disch := omega) only [go_sem, reqD_of, dec_t, dec_f, wrap_i64, wrap_u32, wrap_u64, wrap_u8]
  refine resC_1 (a := ⟨B, 0, none⟩) (v := .agg (opL (makF p nm m) (.slice none 0 0)).toArray) (by simp -dsimp -implicitDefEqProofs only [go_sem]) (run_loadVar_row fact_aggSz_53 (h2.rowH B 20 rfl)) ?_
  exact ⟨h2.right, rfl⟩
end
end Go.Proofs.YtijnmokpihhhcaaDoor

namespace Go.Proofs.YtijnmokpihhhcaaDoor
open Go
set_option linter.unusedVariables false
set_option linter.unusedSimpArgs false
set_option maxRecDepth 100000

abbrev o1 : OpD := makF 1 [97] 2147484096
abbrev o2 : OpD := makF 2 [98] 384
abbrev o3 : OpD := makF 2 [99] 384
abbrev o4 : OpD := ⟨6, 3, [], 0, infZ, 250, [1, 2, 3, 4, 5, 6], 0⟩
abbrev o5 : OpD := ⟨6, 3, [], 0, infZ, 250, [1, 2, 3, 4, 5, 6, 7], 0⟩
def s0 : SD := storeF 3
def s1 : SD := (doF s0 o1).1
def s2 : SD := (doF s1 o2).1
def s4 : SD := (doF s2 o4).1
theorem r1 : (doF s0 o1).2 = (2, 0) := by decide
theorem r2 : (doF s1 o2).2 = (3, 0) := by decide
theorem r3 : doF s2 o2 = (s2, 0, 82) := by rfl
theorem r4 : doF s2 o3 = (s2, 0, 83) := by rfl
theorem r5 : (doF s2 o4).2 = (3, 0) := by decide
theorem r6 : doF s4 o5 = (s4, 0, 84) := by rfl
theorem r7 : readS s4 3 248 4 = [0, 0, 1, 2] := by decide
theorem r8 : (toldI s4 3).length = 256 ∧ (toldI s4 3).parent = 2 ∧ (toldI s4 3).name = [98] ∧ (findN s4.L 3).isSome = true ∧ s4.L.length = 3 := by decide
end Go.Proofs.YtijnmokpihhhcaaDoor

namespace Go.Proofs.YtijnmokpihhhcaaDoor
open Go
set_option linter.unusedVariables false
set_option linter.unusedSimpArgs false
set_option maxRecDepth 100000

theorem mak_in {p m : Nat} {nm : List UInt8} (hm : m < 4294967296) (hn : nm.length ≤ 4294967296) : OpIn (makF p nm m) :=
  ⟨⟨hm, by show (0 : Nat) < _; decide, by show (0 : Nat) < _; decide⟩, by show (0 : Nat) < _; decide, by show (0 : Nat) < _; decide, by show _ ≤ (0 : Int); decide, by show (0 : Int) ≤ _; decide, by show (0 : Nat) ≤ _; decide, by show (nm.take 0).length ≤ _; simp, hn, by show ann.length ≤ _; decide, by show staff.length ≤ _; decide, by show ann.length ≤ _; decide⟩

section
variable {w0 w : World} {A : HP}
section
attribute [local go_sem] F11.t11_eq F11.t4_eq
theorem works_any [Gives A Tabs] (h : St w0 A w) : Calls Tryd.prog 11 #[] w fun e w' => St w0 A w' ∧ e = .returned (.bool true) := by
  refine F11.calls (by simp) ?_
  unfold F11.code
  have hN := h.nilR 5 1
  haveI gN : Gives (RowO 5 1 (.slice none 0 0) 0 [] * A) (RdB (.slice none 0 0) []) := ⟨(Ent.left _ _).trans (RowO.reads _ _ _ _ _)⟩
  haveI g1 : Gives (RowO 5 1 (.slice none 0 0) 0 [] * A) (RdB (.slice none 0 0) o1.data) := gN
  haveI g2 : Gives (RowO 5 1 (.slice none 0 0) 0 [] * A) (RdB (.slice none 0 0) o2.data) := gN
  haveI g3 : Gives (RowO 5 1 (.slice none 0 0) 0 [] * A) (RdB (.slice none 0 0) o3.data) := gN
  simp -dsimp -implicitDefEqProofs (disch := omega) only [go_sem, reqD_of, dec_t, dec_f, wrap_i64, wrap_u32, wrap_u64, wrap_u8]
  refine (store_any (n := 3) (by decide) hN).mono ?_
  rintro e w1 ⟨b, h1, rfl⟩
  simp -dsimp -implicitDefEqProofs (disch := omega) only [go_sem, reqD_of, dec_t, dec_f, wrap_i64, wrap_u32, wrap_u64, wrap_u8]
  refine (next_any h1).mono ?_
  rintro e w2 ⟨h2, rfl⟩
  simp -dsimp -implicitDefEqProofs (disch := omega) only [go_sem, reqD_of, dec_t, dec_f, wrap_i64, wrap_u32, wrap_u64, wrap_u8]
  refine (mak_any (p := 1) (nm := [97]) (m := 2147484096) h2).mono ?_
  rintro e w3 ⟨h3, rfl⟩
  simp -dsimp -implicitDefEqProofs (disch := omega) only [go_sem, reqD_of, dec_t, dec_f, wrap_i64, wrap_u32, wrap_u64, wrap_u8]
  refine (do_any (o := o1) (vd := .slice none 0 0) (mak_in (by decide) (by decide)) (by decide) (by decide) h3).mono ?_
  rintro e w4 ⟨h4, rfl⟩
  have h4 : St w0 (StoreP b 0 0 s1 * (RowO 5 1 (.slice none 0 0) 0 [] * A)) w4 := h4
  rw [show (doF (storeF 3) o1).2 = (2, 0) from r1]
  simp -dsimp -implicitDefEqProofs (disch := omega) only [go_sem, reqD_of, dec_t, dec_f, wrap_i64, wrap_u32, wrap_u64, wrap_u8]
  refine (mak_any (p := 2) (nm := [98]) (m := 384) h4).mono ?_
  rintro e w5 ⟨h5, rfl⟩
  simp -dsimp -implicitDefEqProofs (disch := omega) only [go_sem, reqD_of, dec_t, dec_f, wrap_i64, wrap_u32, wrap_u64, wrap_u8]
  refine (do_any (o := o2) (vd := .slice none 0 0) (mak_in (by decide) (by decide)) (by decide) (by decide) h5).mono ?_
  rintro e w6 ⟨h6, rfl⟩
  have h6 : St w0 (StoreP b 0 0 s2 * (RowO 5 1 (.slice none 0 0) 0 [] * A)) w6 := h6
  rw [r2]
  simp -dsimp -implicitDefEqProofs (disch := omega) only [go_sem, reqD_of, dec_t, dec_f, wrap_i64, wrap_u32, wrap_u64, wrap_u8]
  refine (mak_any (p := 2) (nm := [98]) (m := 384) h6).mono ?_
  rintro e w7 ⟨h7, rfl⟩
  simp -dsimp -implicitDefEqProofs (disch := omega) only [go_sem, reqD_of, dec_t, dec_f, wrap_i64, wrap_u32, wrap_u64, wrap_u8]
  refine (do_any (o := o2) (vd := .slice none 0 0) (mak_in (by decide) (by decide)) (by decide) (by decide) h7).mono ?_
  rintro e w8 ⟨h8, rfl⟩
  rw [r3] at h8 ⊢
  simp -dsimp -implicitDefEqProofs (disch := omega) only [go_sem, reqD_of, dec_t, dec_f, wrap_i64, wrap_u32, wrap_u64, wrap_u8]
  refine (mak_any (p := 2) (nm := [99]) (m := 384) h8).mono ?_
  rintro e w9 ⟨h9, rfl⟩
  simp -dsimp -implicitDefEqProofs (disch := omega) only [go_sem, reqD_of, dec_t, dec_f, wrap_i64, wrap_u32, wrap_u64, wrap_u8]
  refine (do_any (o := o3) (vd := .slice none 0 0) (mak_in (by decide) (by decide)) (by decide) (by decide) h9).mono ?_
  rintro e w10 ⟨h10, rfl⟩
  rw [r4] at h10 ⊢
  have hn : ((storeF 3).next : Int) = 2 := rfl
  simp -dsimp -implicitDefEqProofs (disch := omega) only [go_sem, reqD_of, dec_t, dec_f, wrap_i64, wrap_u32, wrap_u64, wrap_u8, hn]
  refine h10.lit (t := 51) (n := 6) (cells := ([1, 2, 3, 4, 5, 6] : List UInt8).map bv) rowTy_bytes rfl (by decide) (by decide) fun v11 w11 h11 => ?_
  obtain ⟨a11, c11, rfl, _⟩ := h11.rowForm v11
  simp -dsimp -implicitDefEqProofs (disch := omega) only [go_sem, reqD_of, dec_t, dec_f, wrap_i64, wrap_u32, wrap_u64, wrap_u8, hn]
  refine onV_of (v := .agg (opL o4 (.slice a11 6 c11)).toArray) (by rfl) ?_
  simp -dsimp -implicitDefEqProofs (disch := omega) only [go_sem, reqD_of, dec_t, dec_f, wrap_i64, wrap_u32, wrap_u64, wrap_u8, hn]
  haveI g4 : Gives (RowO 5 1 (.slice a11 6 c11) 6 (([1, 2, 3, 4, 5, 6] : List UInt8).map bv) * (RowO 5 1 (.slice none 0 0) 0 [] * A)) (RdB (.slice a11 6 c11) o4.data) := ⟨(Ent.left _ _).trans (RowO.reads _ _ _ _ _)⟩
  have i4 : OpIn o4 := ⟨⟨by decide, by decide, by decide⟩, by decide, by decide, by decide, by decide, by decide, by decide, by decide, by decide, by decide, by decide⟩
  refine (do_any (o := o4) (vd := .slice a11 6 c11) i4 (by decide) (by decide) h11.sw2).mono ?_
  rintro e w12 ⟨h12, rfl⟩
  have h12 : St w0 (StoreP b 0 0 s4 * (RowO 5 1 (.slice none 0 0) 0 [] * A)) w12 := h12.drop2
  rw [r5]
  simp -dsimp -implicitDefEqProofs (disch := omega) only [go_sem, reqD_of, dec_t, dec_f, wrap_i64, wrap_u32, wrap_u64, wrap_u8, hn]
  refine h12.lit (t := 51) (n := 7) (cells := ([1, 2, 3, 4, 5, 6, 7] : List UInt8).map bv) rowTy_bytes rfl (by decide) (by decide) fun v13 w13 h13 => ?_
  obtain ⟨a13, c13, rfl, _⟩ := h13.rowForm v13
  simp -dsimp -implicitDefEqProofs (disch := omega) only [go_sem, reqD_of, dec_t, dec_f, wrap_i64, wrap_u32, wrap_u64, wrap_u8, hn]
  refine onV_of (v := .agg (opL o5 (.slice a13 7 c13)).toArray) (by rfl) ?_
  simp -dsimp -implicitDefEqProofs (disch := omega) only [go_sem, reqD_of, dec_t, dec_f, wrap_i64, wrap_u32, wrap_u64, wrap_u8, hn]
  haveI g5 : Gives (RowO 5 1 (.slice a13 7 c13) 7 (([1, 2, 3, 4, 5, 6, 7] : List UInt8).map bv) * (RowO 5 1 (.slice none 0 0) 0 [] * A)) (RdB (.slice a13 7 c13) o5.data) := ⟨(Ent.left _ _).trans (RowO.reads _ _ _ _ _)⟩
  have i5 : OpIn o5 := ⟨⟨by decide, by decide, by decide⟩, by decide, by decide, by decide, by decide, by decide, by decide, by decide, by decide, by decide, by decide⟩
  refine (do_any (o := o5) (vd := .slice a13 7 c13) i5 (by decide) (by decide) h13.sw2).mono ?_
  rintro e w14 ⟨h14, rfl⟩
  have h14 := h14.drop2
  rw [r6] at h14 ⊢
  simp -dsimp -implicitDefEqProofs (disch := omega) only [go_sem, reqD_of, dec_t, dec_f, wrap_i64, wrap_u32, wrap_u64, wrap_u8, hn]
  refine (sread_any (p := 3) (off := 248) (k := 4) h14 (by decide) (by decide)).mono ?_
  rintro e w15 ⟨v15, h15, rfl⟩
  rw [r7] at h15
  obtain ⟨a15, c15, rfl, _⟩ := h15.rowForm v15
  simp -dsimp -implicitDefEqProofs (disch := omega) only [go_sem, reqD_of, dec_t, dec_f, wrap_i64, wrap_u32, wrap_u64, wrap_u8, hn]
  refine (node_any (p := 3) h15.sw2).mono ?_
  rintro e w16 ⟨h16, rfl⟩
  obtain ⟨q1, q2, q3, q4, q5⟩ := r8
  simp -dsimp -implicitDefEqProofs (disch := omega) only [go_sem, reqD_of, dec_t, dec_f, wrap_i64, wrap_u32, wrap_u64, wrap_u8, hn, toldV, q4]
  refine h16.new fun D w17 h17 => ?_
  simp -dsimp -implicitDefEqProofs (disch := omega) only [go_sem, reqD_of, dec_t, dec_f, wrap_i64, wrap_u32, wrap_u64, wrap_u8, hn]
  refine h17.stoAll (b := D) (cs := infL (toldI s4 3)) rfl rfl (infL_cells _) fun w18 h18 => ?_
  simp -dsimp -implicitDefEqProofs (disch := omega) only [go_sem, reqD_of, dec_t, dec_f, wrap_i64, wrap_u32, wrap_u64, wrap_u8, hn]
  refine (count_any (h18.sw2)).mono ?_
  rintro e w19 ⟨h19, rfl⟩
  simp -dsimp -implicitDefEqProofs (disch := omega) only [go_sem, reqD_of, dec_t, dec_f, wrap_i64, wrap_u32, wrap_u64, wrap_u8, hn, q5]
  refine St.str (bs := [0, 0, 1, 2]) h19 ((Ent.right _ _).trans ((Ent.right _ _).trans ((Ent.left _ _).trans (RowO.reads _ _ _ _ _)))) Tryd.underlying51 Tryd.underlying5 Tryd.underlying9 ?_
  have e1 : ((toldI s4 3).length : Int) = 256 := by rw [q1]; rfl
  have e2 : ((toldI s4 3).parent : Int) = 2 := by rw [q2]; rfl
  simp -dsimp -implicitDefEqProofs (disch := omega) only [go_sem, reqD_of, dec_t, dec_f, wrap_i64, wrap_u32, wrap_u64, wrap_u8, hn, q5, h19.cl D, e1, e2, q3]
  exact h19.right.right.right.right

end
end
end Go.Proofs.YtijnmokpihhhcaaDoor

namespace Go.Proofs.YtijnmokpihhhcaaDoor
open Go
set_option linter.unusedVariables false
set_option linter.unusedSimpArgs false
set_option maxRecDepth 100000

section
variable {w0 w : World} {A : HP}
abbrev kC : List Value := [.int .u8 1, .int .u8 2, .int .u8 3, .int .u8 4, .int .u8 5, .int .u8 6, .int .u8 7]
abbrev mC : List Value := [.int .u8 1, .int .u8 2, .int .u8 4, .int .u8 8, .int .u8 16, .int .u8 32, .int .u8 64]
abbrev eC : List Value := [.int .i64 80, .int .i64 81, .int .i64 82, .int .i64 83, .int .i64 84, .int .i64 85, .int .i64 86, .int .i64 87]
section
attribute [local go_sem] F3.t6_eq F3.t7_eq F3.t11_eq F3.t12_eq F3.t14_eq F3.t9_eq
theorem names_any [Gives A Tabs] (h : St w0 A w) : Calls Tryd.prog 3 #[] w fun e w' => St w0 A w' ∧ e = .returned (.bool true) := by
  refine F3.calls (by simp) ?_
  unfold F3.code
  simp -dsimp -implicitDefEqProofs (disch := omega) only [go_sem, reqD_of, dec_t, dec_f, wrap_i64, wrap_u32, wrap_u64, wrap_u8]
  refine h.lit (t := 23) (n := 7) (cells := kC) (e := 22) (s := 1) (bs := 1) (zs := [.int .u8 0]) (by kernel_rfl) rfl (by decide) (by decide) fun v1 w1 h1 => ?_
  obtain ⟨a1, c1, rfl, _⟩ := h1.rowForm v1
  simp -dsimp -implicitDefEqProofs (disch := omega) only [go_sem, reqD_of, dec_t, dec_f, wrap_i64, wrap_u32, wrap_u64, wrap_u8]
  refine h1.lit (t := 25) (n := 7) (cells := mC) (e := 24) (s := 1) (bs := 1) (zs := [.int .u8 0]) (by kernel_rfl) rfl (by decide) (by decide) fun v2 w2 h2 => ?_
  obtain ⟨a2, c2, rfl, _⟩ := h2.rowForm v2
  simp -dsimp -implicitDefEqProofs (disch := omega) only [go_sem, reqD_of, dec_t, dec_f, wrap_i64, wrap_u32, wrap_u64, wrap_u8]
  refine h2.lit (t := 27) (n := 8) (cells := eC) (e := 26) (s := 1) (bs := 8) (zs := [.int .i64 0]) (by kernel_rfl) rfl (by decide) (by decide) fun v3 w3 h3 => ?_
  obtain ⟨a3, c3, rfl, _⟩ := h3.rowForm v3
  simp -dsimp -implicitDefEqProofs (disch := omega) only [go_sem, reqD_of, dec_t, dec_f, wrap_i64, wrap_u32, wrap_u64, wrap_u8]
  refine loop_intro (fun e w' => e.ds = [] ∧ e.ρ 1 = .slice a1 7 c1 ∧ e.ρ 2 = .slice a2 7 c2 ∧ e.ρ 3 = .slice a3 8 c3 ∧ ∃ i : Nat, i ≤ 7 ∧ e.ρ 4 = .int .i64 i ∧
      St w0 (RowO 26 1 (.slice a3 8 c3) 8 eC * (RowO 24 1 (.slice a2 7 c2) 7 mC * (RowO 22 1 (.slice a1 7 c1) 7 kC * A))) w')
    (fun e _ => match e.ρ 4 with | .int _ x => (7 - x).toNat | _ => 0) ?_ ?_
  · exact ⟨by simp -dsimp -implicitDefEqProofs only [go_sem], by simp -dsimp -implicitDefEqProofs only [go_sem], by simp -dsimp -implicitDefEqProofs only [go_sem], by simp -dsimp -implicitDefEqProofs only [go_sem], 0, by omega, by simp -dsimp -implicitDefEqProofs only [go_sem], h3⟩
  clear h h1 h2 h3
  rintro e w ⟨hd, e1, e2, e3, i, hi, e4, h⟩
  by_cases hlt : (i : Int) < 7
  · obtain ⟨g1, o1, rfl, p1⟩ := h.drew.atS (a := a1) (n := 7) (c := c1) (xs := kC) (k := i) (by show i < 7; omega)
    obtain ⟨g2, o2, rfl, p2⟩ := h.drew.atS (a := a2) (n := 7) (c := c2) (xs := mC) (k := i) (by show i < 7; omega)
    rcases (by omega : i = 0 ∨ i = 1 ∨ i = 2 ∨ i = 3 ∨ i = 4 ∨ i = 5 ∨ i = 6) with rfl | rfl | rfl | rfl | rfl | rfl | rfl
    all_goals
      simp only [kC, mC, List.getElem_cons_zero, List.getElem_cons_succ, Nat.add_zero] at p1 p2
      simp only [Int.ofNat_eq_natCast, Int.cast_ofNat_Int] at e4
    all_goals
      simp -dsimp -implicitDefEqProofs (disch := omega) only [go_sem, reqD_of, dec_t, dec_f, wrap_i64, wrap_u32, wrap_u64, wrap_u8, hd, e1, e2, e3, e4, p1, p2]
    · exact ⟨1, by omega, rfl, h.drew⟩
    · exact ⟨2, by omega, rfl, h.drew⟩
    · exact ⟨3, by omega, rfl, h.drew⟩
    · exact ⟨4, by omega, rfl, h.drew⟩
    · exact ⟨5, by omega, rfl, h.drew⟩
    · exact ⟨6, by omega, rfl, h.drew⟩
    · exact ⟨7, by omega, rfl, h.drew⟩
  · simp -dsimp -implicitDefEqProofs (disch := omega) only [go_sem, reqD_of, dec_t, dec_f, wrap_i64, wrap_u32, wrap_u64, wrap_u8, hd, e1, e2, e3, e4, hlt]
    refine loop_intro (fun e w' => e.ds = [] ∧ e.ρ 3 = .slice a3 8 c3 ∧ ∃ i : Nat, i ≤ 8 ∧ e.ρ 5 = .int .i64 i ∧ St w0 (RowO 26 1 (.slice a3 8 c3) 8 eC * A) w')
      (fun e _ => match e.ρ 5 with | .int _ x => (8 - x).toNat | _ => 0) ?_ ?_
    · exact ⟨by simp -dsimp -implicitDefEqProofs only [go_sem, hd], by simp -dsimp -implicitDefEqProofs only [go_sem, e3], 0, by omega, by simp -dsimp -implicitDefEqProofs only [go_sem], h.drop2.drop2⟩
    clear h hlt hd e1 e2 e3 e4 e w
    rintro e w ⟨hd, e3, j, hj, e5, h⟩
    by_cases hlt : (j : Int) < 8
    · obtain ⟨g1, o1, rfl, p1⟩ := h.atS (a := a3) (n := 8) (c := c3) (xs := eC) (k := j) (by show j < 8; omega)
      rcases (by omega : j = 0 ∨ j = 1 ∨ j = 2 ∨ j = 3 ∨ j = 4 ∨ j = 5 ∨ j = 6 ∨ j = 7) with rfl | rfl | rfl | rfl | rfl | rfl | rfl | rfl
      all_goals
        simp only [eC, List.getElem_cons_zero, List.getElem_cons_succ, Nat.add_zero] at p1
        simp only [Int.ofNat_eq_natCast, Int.cast_ofNat_Int] at e5
      all_goals
        simp -dsimp -implicitDefEqProofs (disch := omega) only [go_sem, reqD_of, dec_t, dec_f, wrap_i64, wrap_u32, wrap_u64, wrap_u8, hd, e3, e5, p1]
      · exact ⟨1, by omega, rfl, h⟩
      · exact ⟨2, by omega, rfl, h⟩
      · exact ⟨3, by omega, rfl, h⟩
      · exact ⟨4, by omega, rfl, h⟩
      · exact ⟨5, by omega, rfl, h⟩
      · exact ⟨6, by omega, rfl, h⟩
      · exact ⟨7, by omega, rfl, h⟩
      · exact ⟨8, by omega, rfl, h⟩
    · simp -dsimp -implicitDefEqProofs (disch := omega) only [go_sem, reqD_of, dec_t, dec_f, wrap_i64, wrap_u32, wrap_u64, wrap_u8, hd, e3, e5, hlt]
      refine (works_any h).mono ?_
      rintro e' w2 ⟨h2, rfl⟩
      simp -dsimp -implicitDefEqProofs (disch := omega) only [go_sem, reqD_of, dec_t, dec_f, wrap_i64, wrap_u32, wrap_u64, wrap_u8, hd]
      exact h2.right
end
end
end Go.Proofs.YtijnmokpihhhcaaDoor

namespace Go.Proofs.YtijnmokpihhhcaaDoor
open Go
set_option linter.unusedVariables false

/-! ### The reference's characters are the library's -/

/-- Does a byte lie within two bounds? -/
def wi (l : List UInt8) (k lo hi : Nat) : Bool := decide (k < l.length ∧ lo ≤ (l.getD k 0).toNat ∧ (l.getD k 0).toNat ≤ hi)
def ch4 (l : List UInt8) (k lo hi : Nat) : Nat := if wi l k 240 244 && wi l (k + 1) lo hi && wi l (k + 2) 128 191 && wi l (k + 3) 128 191 then 4 else 0
def ch3 (l : List UInt8) (k lo hi : Nat) : Nat := ch4 l k (if wi l k 240 240 then 144 else lo) (if wi l k 244 244 then 143 else hi)
def ch2 (l : List UInt8) (k lo hi : Nat) : Nat := if wi l k 224 239 && wi l (k + 1) lo hi && wi l (k + 2) 128 191 then 3 else ch3 l k lo hi
def ch1 (l : List UInt8) (k : Nat) : Nat := ch2 l k (if wi l k 224 224 then 160 else 128) (if wi l k 237 237 then 159 else 191)
def chW (l : List UInt8) (k : Nat) : Nat := if wi l k 0 127 then 1 else if wi l k 194 223 && wi l (k + 1) 128 191 then 2 else ch1 l k
def chB (n b0 b1 b2 b3 : Nat) : Nat :=
  if b0 ≤ 127 then 1 else if (194 ≤ b0 ∧ b0 ≤ 223) ∧ 1 < n ∧ 128 ≤ b1 ∧ b1 ≤ 191 then 2
  else if (224 ≤ b0 ∧ b0 ≤ 239) ∧ (1 < n ∧ (b0 = 224 ∧ 160 ≤ b1 ∨ b0 ≠ 224 ∧ 128 ≤ b1) ∧ (b0 = 237 ∧ b1 ≤ 159 ∨ b0 ≠ 237 ∧ b1 ≤ 191)) ∧ 2 < n ∧ 128 ≤ b2 ∧ b2 ≤ 191 then 3
  else if (240 ≤ b0 ∧ b0 ≤ 244) ∧ (1 < n ∧ (b0 = 240 ∧ 144 ≤ b1 ∨ b0 ≠ 240 ∧ 128 ≤ b1) ∧ (b0 = 244 ∧ b1 ≤ 143 ∨ b0 ≠ 244 ∧ b1 ≤ 191)) ∧ (2 < n ∧ 128 ≤ b2 ∧ b2 ≤ 191) ∧ 3 < n ∧ 128 ≤ b3 ∧ b3 ≤ 191 then 4 else 0
theorem chB_eq (n b0 b1 b2 b3 : Nat) (h0 : b0 < 256) (h1 : b1 < 256) (h2 : b2 < 256) (h3 : b3 < 256) :
    if chB n b0 b1 b2 b3 = 0 then Lib.decodeN n b0 b1 b2 b3 = (65533, 1) else (Lib.decodeN n b0 b1 b2 b3).2 = chB n b0 b1 b2 b3 ∧ ¬ ((Lib.decodeN n b0 b1 b2 b3).1 = 65533 ∧ chB n b0 b1 b2 b3 = 1) ∧ ((Lib.decodeN n b0 b1 b2 b3).1 = 0 ↔ b0 = 0) := by
  by_cases a1 : b0 ≤ 127
  · have e1 : chB n b0 b1 b2 b3 = 1 := by rw [chB, if_pos a1]
    have e2 : Lib.decodeN n b0 b1 b2 b3 = (b0, 1) := by rw [Lib.decodeN, if_pos (by omega)]
    rw [e1, e2]
    simp
    omega
  by_cases a2 : (194 ≤ b0 ∧ b0 ≤ 223) ∧ 1 < n ∧ 128 ≤ b1 ∧ b1 ≤ 191
  · have e1 : chB n b0 b1 b2 b3 = 2 := by rw [chB, if_neg a1, if_pos a2]
    have e2 : Lib.decodeN n b0 b1 b2 b3 = (b0 % 32 * 64 + b1 % 64, 2) := by rw [Lib.decodeN, if_neg (by omega), if_pos (by omega), if_pos (by omega)]
    rw [e1, e2]
    simp
    omega
  by_cases a3 : (224 ≤ b0 ∧ b0 ≤ 239) ∧ (1 < n ∧ (b0 = 224 ∧ 160 ≤ b1 ∨ b0 ≠ 224 ∧ 128 ≤ b1) ∧ (b0 = 237 ∧ b1 ≤ 159 ∨ b0 ≠ 237 ∧ b1 ≤ 191)) ∧ 2 < n ∧ 128 ≤ b2 ∧ b2 ≤ 191
  · have e1 : chB n b0 b1 b2 b3 = 3 := by rw [chB, if_neg a1, if_neg a2, if_pos a3]
    have e2 : Lib.decodeN n b0 b1 b2 b3 = (b0 % 16 * 4096 + b1 % 64 * 64 + b2 % 64, 3) := by
      rw [Lib.decodeN, if_neg (by omega), if_neg (by omega), if_pos (by omega), if_pos (by omega)]
    rw [e1, e2]
    simp
    omega
  by_cases a4 : (240 ≤ b0 ∧ b0 ≤ 244) ∧ (1 < n ∧ (b0 = 240 ∧ 144 ≤ b1 ∨ b0 ≠ 240 ∧ 128 ≤ b1) ∧ (b0 = 244 ∧ b1 ≤ 143 ∨ b0 ≠ 244 ∧ b1 ≤ 191)) ∧ (2 < n ∧ 128 ≤ b2 ∧ b2 ≤ 191) ∧ 3 < n ∧ 128 ≤ b3 ∧ b3 ≤ 191
  · have e1 : chB n b0 b1 b2 b3 = 4 := by rw [chB, if_neg a1, if_neg a2, if_neg a3, if_pos a4]
    have e2 : Lib.decodeN n b0 b1 b2 b3 = (b0 % 8 * 262144 + b1 % 64 * 4096 + b2 % 64 * 64 + b3 % 64, 4) := by
      rw [Lib.decodeN, if_neg (by omega), if_neg (by omega), if_neg (by omega), if_pos (by omega), if_pos (by omega)]
    rw [e1, e2]
    simp
    omega
  · have e1 : chB n b0 b1 b2 b3 = 0 := by rw [chB, if_neg a1, if_neg a2, if_neg a3, if_neg a4]
    rw [if_pos e1, Lib.decodeN, if_neg (by omega)]
    split
    · rw [if_neg (by omega)]
    split
    · rw [if_neg (by omega)]
    split
    · rw [if_neg (by omega)]
    · rfl
theorem chW_eq (l : List UInt8) (k : Nat) (hk : k < l.length) : chW l k = chB (l.drop k).length ((l.drop k).getD 0 0).toNat ((l.drop k).getD 1 0).toNat ((l.drop k).getD 2 0).toNat ((l.drop k).getD 3 0).toNat := by
  simp only [List.length_drop, List.getD_eq_getElem?_getD, List.getElem?_drop, Nat.add_zero]
  have w0 : ∀ a b, wi l k a b = decide (a ≤ (l[k]?.getD 0).toNat ∧ (l[k]?.getD 0).toNat ≤ b) := fun a b => by
    simp only [wi, List.getD_eq_getElem?_getD, hk, true_and]
  have w1 : ∀ j a b, wi l (k + j) a b = decide (j < l.length - k ∧ a ≤ (l[k + j]?.getD 0).toNat ∧ (l[k + j]?.getD 0).toNat ≤ b) := fun j a b => by
    simp only [wi, List.getD_eq_getElem?_getD]
    congr 1
    exact propext ⟨fun h => ⟨by omega, h.2⟩, fun h => ⟨by omega, h.2⟩⟩
  simp only [chW, ch1, ch2, ch3, ch4, w0, w1]
  generalize (l[k]?.getD 0).toNat = b0
  generalize (l[k + 1]?.getD 0).toNat = b1
  generalize (l[k + 2]?.getD 0).toNat = b2
  generalize (l[k + 3]?.getD 0).toNat = b3
  generalize l.length - k = n
  simp only [Bool.and_eq_true, decide_eq_true_eq]
  unfold chB
  by_cases a1 : b0 ≤ 127
  · rw [if_pos (by omega), if_pos a1]
  rw [if_neg (by omega), if_neg a1]
  by_cases a2 : (194 ≤ b0 ∧ b0 ≤ 223) ∧ 1 < n ∧ 128 ≤ b1 ∧ b1 ≤ 191
  · rw [if_pos a2, if_pos a2]
  rw [if_neg a2, if_neg a2]
  have j1 : ∀ m, ((if 224 ≤ b0 ∧ b0 ≤ 224 then 160 else 128) ≤ m ↔ (b0 = 224 ∧ 160 ≤ m ∨ b0 ≠ 224 ∧ 128 ≤ m)) := fun m => by split <;> omega
  have j2 : ∀ m, (m ≤ (if 237 ≤ b0 ∧ b0 ≤ 237 then 159 else 191) ↔ (b0 = 237 ∧ m ≤ 159 ∨ b0 ≠ 237 ∧ m ≤ 191)) := fun m => by split <;> omega
  simp only [j1, j2]
  by_cases a3 : (224 ≤ b0 ∧ b0 ≤ 239) ∧ (1 < n ∧ (b0 = 224 ∧ 160 ≤ b1 ∨ b0 ≠ 224 ∧ 128 ≤ b1) ∧ (b0 = 237 ∧ b1 ≤ 159 ∨ b0 ≠ 237 ∧ b1 ≤ 191)) ∧ 2 < n ∧ 128 ≤ b2 ∧ b2 ≤ 191
  · rw [if_pos ⟨⟨a3.1, a3.2.1⟩, a3.2.2⟩, if_pos a3]
  rw [if_neg (fun h => a3 ⟨h.1.1, h.1.2, h.2⟩), if_neg a3]
  by_cases h240 : 240 ≤ b0
  case neg => rw [if_neg (by omega), if_neg (by omega)]
  have n224 : ¬ (224 ≤ b0 ∧ b0 ≤ 224) := by omega
  have n237 : ¬ (237 ≤ b0 ∧ b0 ≤ 237) := by omega
  rw [if_neg n224, if_neg n237]
  have j3 : ∀ m, ((if 240 ≤ b0 ∧ b0 ≤ 240 then 144 else 128) ≤ m ↔ (b0 = 240 ∧ 144 ≤ m ∨ b0 ≠ 240 ∧ 128 ≤ m)) := fun m => by split <;> omega
  have j4 : ∀ m, (m ≤ (if 244 ≤ b0 ∧ b0 ≤ 244 then 143 else 191) ↔ (b0 = 244 ∧ m ≤ 143 ∨ b0 ≠ 244 ∧ m ≤ 191)) := fun m => by split <;> omega
  simp only [j3, j4]
  by_cases a4 : (240 ≤ b0 ∧ b0 ≤ 244) ∧ (1 < n ∧ (b0 = 240 ∧ 144 ≤ b1 ∨ b0 ≠ 240 ∧ 128 ≤ b1) ∧ (b0 = 244 ∧ b1 ≤ 143 ∨ b0 ≠ 244 ∧ b1 ≤ 191)) ∧ (2 < n ∧ 128 ≤ b2 ∧ b2 ≤ 191) ∧ 3 < n ∧ 128 ≤ b3 ∧ b3 ≤ 191
  · rw [if_pos ⟨⟨⟨a4.1, a4.2.1⟩, a4.2.2.1⟩, a4.2.2.2⟩, if_pos a4]
  · rw [if_neg (fun h => a4 ⟨h.1.1.1, h.1.1.2, h.1.2, h.2⟩), if_neg a4]
theorem ch_law (l : List UInt8) (k : Nat) (hk : k < l.length) :
    if chW l k = 0 then decL (l.drop k) = (65533, 1) else (decL (l.drop k)).2 = chW l k ∧ ¬ ((decL (l.drop k)).1 = 65533 ∧ chW l k = 1) ∧ ((decL (l.drop k)).1 = 0 ↔ (l.getD k 0).toNat = 0) := by
  have h := chB_eq (l.drop k).length ((l.drop k).getD 0 0).toNat ((l.drop k).getD 1 0).toNat ((l.drop k).getD 2 0).toNat ((l.drop k).getD 3 0).toNat (UInt8.toNat_lt _) (UInt8.toNat_lt _) (UInt8.toNat_lt _) (UInt8.toNat_lt _)
  rw [← chW_eq l k hk] at h
  have e : ((l.drop k).getD 0 0) = l.getD k 0 := by simp [List.getD]
  rw [e] at h
  unfold decL
  rw [e]
  exact h
theorem good_step (l : List UInt8) (k : Nat) (hk : k < l.length) : if chW l k = 0 ∨ (l.getD k 0).toNat = 0 then good (l.drop k) = false else good (l.drop k) = good (l.drop (k + chW l k)) := by
  have hne : l.drop k ≠ [] := by
    intro e
    have := congrArg List.length e
    simp at this
    omega
  have h := ch_law l k hk
  rw [good_cons hne]
  by_cases h0 : chW l k = 0
  · rw [if_pos h0] at h
    rw [if_pos (.inl h0), h]
    simp
  · rw [if_neg h0] at h
    obtain ⟨h1, h2, h3⟩ := h
    by_cases h4 : (l.getD k 0).toNat = 0
    · rw [if_pos (.inr h4)]
      simp [h3.2 h4]
    · rw [if_neg (fun h => h.elim h0 h4), h1, List.drop_drop]
      have e1 : ((decL (l.drop k)).1 == 0) = false := by simpa using fun e => h4 (h3.1 e)
      have e2 : ((decL (l.drop k)).1 == 65533 && chW l k == 1) = false := by
        by_cases hx : (decL (l.drop k)).1 = 65533
        · have : ¬ chW l k = 1 := fun e => h2 ⟨hx, e⟩
          simp [this]
        · simp [hx]
      rw [e1, e2]; simp
theorem chW_le (l : List UInt8) (k : Nat) (hk : k < l.length) : k + chW l k ≤ l.length := by
  have h := ch_law l k hk
  have hne : l.drop k ≠ [] := by
    intro e
    have := congrArg List.length e
    simp at this
    omega
  have hw := decL_width (l.drop k) hne
  simp only [List.length_drop] at hw
  split at h
  · omega
  · omega
end Go.Proofs.YtijnmokpihhhcaaDoor

namespace Go.Proofs.YtijnmokpihhhcaaDoor
open Go
set_option linter.unusedVariables false
set_option linter.unusedSimpArgs false
set_option maxRecDepth 100000


theorem within_any {w0 w : World} {A : HP} (h : St w0 A w) (l : List UInt8) (hl : l.length ≤ 9223372036854775800) (k lo hi : Nat) :
    Calls Tryd.prog 101 #[.string (strOf l), .int .i64 k, .int .u8 lo, .int .u8 hi] w fun e w' => St w0 A w' ∧ e = .returned (.bool (wi l k lo hi)) := by
  refine F101.calls (by simp) ?_
  unfold F101.code
  by_cases h1 : (k : Int) < l.length
  case neg =>
    have e0 : wi l k lo hi = false := by simp [wi]; omega
    simp -dsimp -implicitDefEqProofs (disch := omega) only [go_sem, reqD_of, dec_t, dec_f, wrap_i64, wrap_u32, wrap_u64, wrap_u8, h1, e0]
    exact h
  obtain ⟨c, hc⟩ : ∃ c, c = (l.getD k 0).toNat := ⟨_, rfl⟩
  by_cases h2 : (lo : Int) ≤ (c : Int)
  case neg =>
    have e0 : wi l k lo hi = false := decide_eq_false (by rw [← hc]; omega)
    simp -dsimp -implicitDefEqProofs (disch := omega) only [go_sem, reqD_of, dec_t, dec_f, wrap_i64, wrap_u32, wrap_u64, wrap_u8, h1, e0, ← hc, h2]
    exact h
  by_cases h3 : (c : Int) ≤ hi
  case neg =>
    have e0 : wi l k lo hi = false := decide_eq_false (by rw [← hc]; omega)
    simp -dsimp -implicitDefEqProofs (disch := omega) only [go_sem, reqD_of, dec_t, dec_f, wrap_i64, wrap_u32, wrap_u64, wrap_u8, h1, e0, ← hc, h2, h3]
    exact h
  have e0 : wi l k lo hi = true := decide_eq_true (by rw [← hc]; omega)
  simp -dsimp -implicitDefEqProofs (disch := omega) only [go_sem, reqD_of, dec_t, dec_f, wrap_i64, wrap_u32, wrap_u64, wrap_u8, h1, e0, ← hc, h2, h3]
  exact h

section
attribute [local go_sem] F89.t18_eq
end
section
variable {w0 w : World} {A : HP} {l : List UInt8} {k : Nat} {e : FA} {R : Ending → World → Prop}
theorem ch_t16 {θ : Tag (F89.t16, fnP Tryd.prog #[.tmp 4] R, e, w)} {lo hi : Nat} (h : St w0 A w) (hl : l.length ≤ 9223372036854775800) (hk : k < l.length)
    (hd : e.ds = []) (e0 : e.ρ 0 = .string (strOf l)) (e1 : e.ρ 1 = .int .i64 k) (e5 : e.ρ 5 = .int .u8 lo) (e6 : e.ρ 6 = .int .u8 hi)
    (hQ : ∀ w', St w0 A w' → R (.returned (.int .i64 (ch4 l k lo hi))) w') : cwE Tryd.prog F89.t16 (fnP Tryd.prog #[.tmp 4] R) e w θ := by
  rw [F89.t16_eq]
  unfold F89.t18
  simp -dsimp -implicitDefEqProofs (disch := omega) only [go_sem, reqD_of, dec_t, dec_f, wrap_i64, wrap_u32, wrap_u64, wrap_u8, hd, e0, e1, e5, e6]
  refine (within_any h l hl k 240 244).mono ?_
  rintro e' w1 ⟨h1, rfl⟩
  cases b1 : wi l k 240 244
  · have hr : ch4 l k lo hi = 0 := by simp [ch4, b1]
    rw [hr] at hQ
    simp -dsimp -implicitDefEqProofs (disch := omega) only [go_sem, reqD_of, dec_t, dec_f, wrap_i64, wrap_u32, wrap_u64, wrap_u8, hd, e0, e1, e5, e6]
    exact hQ _ h1
  simp -dsimp -implicitDefEqProofs (disch := omega) only [go_sem, reqD_of, dec_t, dec_f, wrap_i64, wrap_u32, wrap_u64, wrap_u8, hd, e0, e1, e5, e6]
  refine (within_any h1 l hl (k + 1) lo hi).mono ?_
  rintro e' w2 ⟨h2, rfl⟩
  cases b2 : wi l (k + 1) lo hi
  · have hr : ch4 l k lo hi = 0 := by simp [ch4, b2]
    rw [hr] at hQ
    simp -dsimp -implicitDefEqProofs (disch := omega) only [go_sem, reqD_of, dec_t, dec_f, wrap_i64, wrap_u32, wrap_u64, wrap_u8, hd, e0, e1, e5, e6]
    exact hQ _ h2
  simp -dsimp -implicitDefEqProofs (disch := omega) only [go_sem, reqD_of, dec_t, dec_f, wrap_i64, wrap_u32, wrap_u64, wrap_u8, hd, e0, e1, e5, e6]
  refine (within_any h2 l hl (k + 2) 128 191).mono ?_
  rintro e' w3 ⟨h3, rfl⟩
  cases b3 : wi l (k + 2) 128 191
  · have hr : ch4 l k lo hi = 0 := by simp [ch4, b3]
    rw [hr] at hQ
    simp -dsimp -implicitDefEqProofs (disch := omega) only [go_sem, reqD_of, dec_t, dec_f, wrap_i64, wrap_u32, wrap_u64, wrap_u8, hd, e0, e1, e5, e6]
    exact hQ _ h3
  simp -dsimp -implicitDefEqProofs (disch := omega) only [go_sem, reqD_of, dec_t, dec_f, wrap_i64, wrap_u32, wrap_u64, wrap_u8, hd, e0, e1, e5, e6]
  refine (within_any h3 l hl (k + 3) 128 191).mono ?_
  rintro e' w4 ⟨h4, rfl⟩
  cases b4 : wi l (k + 3) 128 191
  · have hr : ch4 l k lo hi = 0 := by simp [ch4, b4]
    rw [hr] at hQ
    simp -dsimp -implicitDefEqProofs (disch := omega) only [go_sem, reqD_of, dec_t, dec_f, wrap_i64, wrap_u32, wrap_u64, wrap_u8, hd, e0, e1, e5, e6]
    exact hQ _ h4
  have hr : ch4 l k lo hi = 4 := by simp [ch4, b1, b2, b3, b4]
  rw [hr] at hQ
  simp -dsimp -implicitDefEqProofs (disch := omega) only [go_sem, reqD_of, dec_t, dec_f, wrap_i64, wrap_u32, wrap_u64, wrap_u8, hd, e0, e1, e5, e6]
  exact hQ _ h4
theorem ch_t14 {θ : Tag (F89.t14, fnP Tryd.prog #[.tmp 4] R, e, w)} {lo hi : Nat} (h : St w0 A w) (hl : l.length ≤ 9223372036854775800) (hk : k < l.length)
    (hd : e.ds = []) (e0 : e.ρ 0 = .string (strOf l)) (e1 : e.ρ 1 = .int .i64 k) (e5 : e.ρ 5 = .int .u8 lo) (e6 : e.ρ 6 = .int .u8 hi)
    (hQ : ∀ w', St w0 A w' → R (.returned (.int .i64 (ch4 l k lo (if wi l k 244 244 then 143 else hi)))) w') : cwE Tryd.prog F89.t14 (fnP Tryd.prog #[.tmp 4] R) e w θ := by
  rw [F89.t14_eq]
  simp -dsimp -implicitDefEqProofs (disch := omega) only [go_sem, reqD_of, dec_t, dec_f, wrap_i64, wrap_u32, wrap_u64, wrap_u8, hd, e0, e1, e5, e6]
  refine (within_any h l hl k 244 244).mono ?_
  rintro e' w1 ⟨h1, rfl⟩
  cases b1 : wi l k 244 244 <;> rw [b1] at hQ
  · simp -dsimp -implicitDefEqProofs (disch := omega) only [go_sem, reqD_of, dec_t, dec_f, wrap_i64, wrap_u32, wrap_u64, wrap_u8, hd, e0, e1, e5, e6]
    exact ch_t16 (lo := lo) (hi := hi) h1 hl hk (by simp -dsimp -implicitDefEqProofs only [go_sem, hd]) (by simp -dsimp -implicitDefEqProofs only [go_sem, e0]) (by simp -dsimp -implicitDefEqProofs only [go_sem, e1]) (by simp -dsimp -implicitDefEqProofs only [go_sem, e5]) (by simp -dsimp -implicitDefEqProofs only [go_sem, e6]) hQ
  · simp -dsimp -implicitDefEqProofs (disch := omega) only [go_sem, reqD_of, dec_t, dec_f, wrap_i64, wrap_u32, wrap_u64, wrap_u8, hd, e0, e1, e5, e6]
    exact ch_t16 (lo := lo) (hi := 143) h1 hl hk (by simp -dsimp -implicitDefEqProofs only [go_sem, hd]) (by simp -dsimp -implicitDefEqProofs only [go_sem, e0]) (by simp -dsimp -implicitDefEqProofs only [go_sem, e1]) (by simp -dsimp -implicitDefEqProofs only [go_sem, e5]) (by simp -dsimp -implicitDefEqProofs only [go_sem]) hQ
theorem ch_t12 {θ : Tag (F89.t12, fnP Tryd.prog #[.tmp 4] R, e, w)} {lo hi : Nat} (h : St w0 A w) (hl : l.length ≤ 9223372036854775800) (hk : k < l.length)
    (hd : e.ds = []) (e0 : e.ρ 0 = .string (strOf l)) (e1 : e.ρ 1 = .int .i64 k) (e5 : e.ρ 5 = .int .u8 lo) (e6 : e.ρ 6 = .int .u8 hi)
    (hQ : ∀ w', St w0 A w' → R (.returned (.int .i64 (ch3 l k lo hi))) w') : cwE Tryd.prog F89.t12 (fnP Tryd.prog #[.tmp 4] R) e w θ := by
  rw [F89.t12_eq]
  unfold ch3 at hQ
  simp -dsimp -implicitDefEqProofs (disch := omega) only [go_sem, reqD_of, dec_t, dec_f, wrap_i64, wrap_u32, wrap_u64, wrap_u8, hd, e0, e1, e5, e6]
  refine (within_any h l hl k 240 240).mono ?_
  rintro e' w1 ⟨h1, rfl⟩
  cases b1 : wi l k 240 240 <;> rw [b1] at hQ
  · simp -dsimp -implicitDefEqProofs (disch := omega) only [go_sem, reqD_of, dec_t, dec_f, wrap_i64, wrap_u32, wrap_u64, wrap_u8, hd, e0, e1, e5, e6]
    exact ch_t14 (lo := lo) (hi := hi) h1 hl hk (by simp -dsimp -implicitDefEqProofs only [go_sem, hd]) (by simp -dsimp -implicitDefEqProofs only [go_sem, e0]) (by simp -dsimp -implicitDefEqProofs only [go_sem, e1]) (by simp -dsimp -implicitDefEqProofs only [go_sem, e5]) (by simp -dsimp -implicitDefEqProofs only [go_sem, e6]) hQ
  · simp -dsimp -implicitDefEqProofs (disch := omega) only [go_sem, reqD_of, dec_t, dec_f, wrap_i64, wrap_u32, wrap_u64, wrap_u8, hd, e0, e1, e5, e6]
    exact ch_t14 (lo := 144) (hi := hi) h1 hl hk (by simp -dsimp -implicitDefEqProofs only [go_sem, hd]) (by simp -dsimp -implicitDefEqProofs only [go_sem, e0]) (by simp -dsimp -implicitDefEqProofs only [go_sem, e1]) (by simp -dsimp -implicitDefEqProofs only [go_sem]) (by simp -dsimp -implicitDefEqProofs only [go_sem, e6]) hQ
theorem ch_t10 {θ : Tag (F89.t10, fnP Tryd.prog #[.tmp 4] R, e, w)} {lo hi : Nat} (h : St w0 A w) (hl : l.length ≤ 9223372036854775800) (hk : k < l.length)
    (hd : e.ds = []) (e0 : e.ρ 0 = .string (strOf l)) (e1 : e.ρ 1 = .int .i64 k) (e5 : e.ρ 5 = .int .u8 lo) (e6 : e.ρ 6 = .int .u8 hi)
    (hQ : ∀ w', St w0 A w' → R (.returned (.int .i64 (ch2 l k lo hi))) w') : cwE Tryd.prog F89.t10 (fnP Tryd.prog #[.tmp 4] R) e w θ := by
  rw [F89.t10_eq]
  simp -dsimp -implicitDefEqProofs (disch := omega) only [go_sem, reqD_of, dec_t, dec_f, wrap_i64, wrap_u32, wrap_u64, wrap_u8, hd, e0, e1, e5, e6]
  refine (within_any h l hl k 224 239).mono ?_
  rintro e' w1 ⟨h1, rfl⟩
  cases b1 : wi l k 224 239
  · have hr : ch2 l k lo hi = ch3 l k lo hi := by simp [ch2, b1]
    rw [hr] at hQ
    simp -dsimp -implicitDefEqProofs (disch := omega) only [go_sem, reqD_of, dec_t, dec_f, wrap_i64, wrap_u32, wrap_u64, wrap_u8, hd, e0, e1, e5, e6]
    exact ch_t12 (lo := lo) (hi := hi) h1 hl hk (by simp -dsimp -implicitDefEqProofs only [go_sem, hd]) (by simp -dsimp -implicitDefEqProofs only [go_sem, e0]) (by simp -dsimp -implicitDefEqProofs only [go_sem, e1]) (by simp -dsimp -implicitDefEqProofs only [go_sem, e5]) (by simp -dsimp -implicitDefEqProofs only [go_sem, e6]) hQ
  simp -dsimp -implicitDefEqProofs (disch := omega) only [go_sem, reqD_of, dec_t, dec_f, wrap_i64, wrap_u32, wrap_u64, wrap_u8, hd, e0, e1, e5, e6]
  refine (within_any h1 l hl (k + 1) lo hi).mono ?_
  rintro e' w2 ⟨h2, rfl⟩
  cases b2 : wi l (k + 1) lo hi
  · have hr : ch2 l k lo hi = ch3 l k lo hi := by simp [ch2, b2]
    rw [hr] at hQ
    simp -dsimp -implicitDefEqProofs (disch := omega) only [go_sem, reqD_of, dec_t, dec_f, wrap_i64, wrap_u32, wrap_u64, wrap_u8, hd, e0, e1, e5, e6]
    exact ch_t12 (lo := lo) (hi := hi) h2 hl hk (by simp -dsimp -implicitDefEqProofs only [go_sem, hd]) (by simp -dsimp -implicitDefEqProofs only [go_sem, e0]) (by simp -dsimp -implicitDefEqProofs only [go_sem, e1]) (by simp -dsimp -implicitDefEqProofs only [go_sem, e5]) (by simp -dsimp -implicitDefEqProofs only [go_sem, e6]) hQ
  simp -dsimp -implicitDefEqProofs (disch := omega) only [go_sem, reqD_of, dec_t, dec_f, wrap_i64, wrap_u32, wrap_u64, wrap_u8, hd, e0, e1, e5, e6]
  refine (within_any h2 l hl (k + 2) 128 191).mono ?_
  rintro e' w3 ⟨h3, rfl⟩
  cases b3 : wi l (k + 2) 128 191
  · have hr : ch2 l k lo hi = ch3 l k lo hi := by simp [ch2, b3]
    rw [hr] at hQ
    simp -dsimp -implicitDefEqProofs (disch := omega) only [go_sem, reqD_of, dec_t, dec_f, wrap_i64, wrap_u32, wrap_u64, wrap_u8, hd, e0, e1, e5, e6]
    exact ch_t12 (lo := lo) (hi := hi) h3 hl hk (by simp -dsimp -implicitDefEqProofs only [go_sem, hd]) (by simp -dsimp -implicitDefEqProofs only [go_sem, e0]) (by simp -dsimp -implicitDefEqProofs only [go_sem, e1]) (by simp -dsimp -implicitDefEqProofs only [go_sem, e5]) (by simp -dsimp -implicitDefEqProofs only [go_sem, e6]) hQ
  have hr : ch2 l k lo hi = 3 := by simp [ch2, b1, b2, b3]
  rw [hr] at hQ
  simp -dsimp -implicitDefEqProofs (disch := omega) only [go_sem, reqD_of, dec_t, dec_f, wrap_i64, wrap_u32, wrap_u64, wrap_u8, hd, e0, e1, e5, e6]
  exact hQ _ h3
theorem ch_t8 {θ : Tag (F89.t8, fnP Tryd.prog #[.tmp 4] R, e, w)} {lo hi : Nat} (h : St w0 A w) (hl : l.length ≤ 9223372036854775800) (hk : k < l.length)
    (hd : e.ds = []) (e0 : e.ρ 0 = .string (strOf l)) (e1 : e.ρ 1 = .int .i64 k) (e5 : e.ρ 5 = .int .u8 lo) (e6 : e.ρ 6 = .int .u8 hi)
    (hQ : ∀ w', St w0 A w' → R (.returned (.int .i64 (ch2 l k lo (if wi l k 237 237 then 159 else hi)))) w') : cwE Tryd.prog F89.t8 (fnP Tryd.prog #[.tmp 4] R) e w θ := by
  rw [F89.t8_eq]
  simp -dsimp -implicitDefEqProofs (disch := omega) only [go_sem, reqD_of, dec_t, dec_f, wrap_i64, wrap_u32, wrap_u64, wrap_u8, hd, e0, e1, e5, e6]
  refine (within_any h l hl k 237 237).mono ?_
  rintro e' w1 ⟨h1, rfl⟩
  cases b1 : wi l k 237 237 <;> rw [b1] at hQ
  · simp -dsimp -implicitDefEqProofs (disch := omega) only [go_sem, reqD_of, dec_t, dec_f, wrap_i64, wrap_u32, wrap_u64, wrap_u8, hd, e0, e1, e5, e6]
    exact ch_t10 (lo := lo) (hi := hi) h1 hl hk (by simp -dsimp -implicitDefEqProofs only [go_sem, hd]) (by simp -dsimp -implicitDefEqProofs only [go_sem, e0]) (by simp -dsimp -implicitDefEqProofs only [go_sem, e1]) (by simp -dsimp -implicitDefEqProofs only [go_sem, e5]) (by simp -dsimp -implicitDefEqProofs only [go_sem, e6]) hQ
  · simp -dsimp -implicitDefEqProofs (disch := omega) only [go_sem, reqD_of, dec_t, dec_f, wrap_i64, wrap_u32, wrap_u64, wrap_u8, hd, e0, e1, e5, e6]
    exact ch_t10 (lo := lo) (hi := 159) h1 hl hk (by simp -dsimp -implicitDefEqProofs only [go_sem, hd]) (by simp -dsimp -implicitDefEqProofs only [go_sem, e0]) (by simp -dsimp -implicitDefEqProofs only [go_sem, e1]) (by simp -dsimp -implicitDefEqProofs only [go_sem, e5]) (by simp -dsimp -implicitDefEqProofs only [go_sem]) hQ
theorem ch_t5 {θ : Tag (F89.t5, fnP Tryd.prog #[.tmp 4] R, e, w)} (h : St w0 A w) (hl : l.length ≤ 9223372036854775800) (hk : k < l.length)
    (hd : e.ds = []) (e0 : e.ρ 0 = .string (strOf l)) (e1 : e.ρ 1 = .int .i64 k)
    (hQ : ∀ w', St w0 A w' → R (.returned (.int .i64 (ch1 l k))) w') : cwE Tryd.prog F89.t5 (fnP Tryd.prog #[.tmp 4] R) e w θ := by
  rw [F89.t5_eq]
  unfold ch1 at hQ
  simp -dsimp -implicitDefEqProofs (disch := omega) only [go_sem, reqD_of, dec_t, dec_f, wrap_i64, wrap_u32, wrap_u64, wrap_u8, hd, e0, e1]
  refine (within_any h l hl k 224 224).mono ?_
  rintro e' w1 ⟨h1, rfl⟩
  cases b1 : wi l k 224 224 <;> rw [b1] at hQ
  · simp -dsimp -implicitDefEqProofs (disch := omega) only [go_sem, reqD_of, dec_t, dec_f, wrap_i64, wrap_u32, wrap_u64, wrap_u8, hd, e0, e1]
    exact ch_t8 (lo := 128) (hi := 191) h1 hl hk (by simp -dsimp -implicitDefEqProofs only [go_sem, hd]) (by simp -dsimp -implicitDefEqProofs only [go_sem, e0]) (by simp -dsimp -implicitDefEqProofs only [go_sem, e1]) (by simp -dsimp -implicitDefEqProofs only [go_sem]) (by simp -dsimp -implicitDefEqProofs only [go_sem]) hQ
  · simp -dsimp -implicitDefEqProofs (disch := omega) only [go_sem, reqD_of, dec_t, dec_f, wrap_i64, wrap_u32, wrap_u64, wrap_u8, hd, e0, e1]
    exact ch_t8 (lo := 160) (hi := 191) h1 hl hk (by simp -dsimp -implicitDefEqProofs only [go_sem, hd]) (by simp -dsimp -implicitDefEqProofs only [go_sem, e0]) (by simp -dsimp -implicitDefEqProofs only [go_sem, e1]) (by simp -dsimp -implicitDefEqProofs only [go_sem]) (by simp -dsimp -implicitDefEqProofs only [go_sem]) hQ
end
theorem character_any {w0 w : World} {A : HP} (h : St w0 A w) (l : List UInt8) (hl : l.length ≤ 9223372036854775800) (k : Nat) (hk : k < l.length) :
    Calls Tryd.prog 89 #[.string (strOf l), .int .i64 k] w fun e w' => St w0 A w' ∧ e = .returned (.int .i64 (chW l k)) := by
  refine F89.calls (by simp) ?_
  unfold F89.code
  simp -dsimp -implicitDefEqProofs (disch := omega) only [go_sem, reqD_of, dec_t, dec_f, wrap_i64, wrap_u32, wrap_u64, wrap_u8]
  refine (within_any h l hl k 0 127).mono ?_
  rintro e' w1 ⟨h1, rfl⟩
  cases b1 : wi l k 0 127
  case true =>
    have hr : chW l k = 1 := by simp [chW, b1]
    rw [hr]
    simp -dsimp -implicitDefEqProofs (disch := omega) only [go_sem, reqD_of, dec_t, dec_f, wrap_i64, wrap_u32, wrap_u64, wrap_u8]
    exact h1
  unfold F89.t3
  simp -dsimp -implicitDefEqProofs (disch := omega) only [go_sem, reqD_of, dec_t, dec_f, wrap_i64, wrap_u32, wrap_u64, wrap_u8]
  refine (within_any h1 l hl k 194 223).mono ?_
  rintro e' w2 ⟨h2, rfl⟩
  cases b2 : wi l k 194 223
  · have hr : chW l k = ch1 l k := by simp [chW, b1, b2]
    rw [hr]
    simp -dsimp -implicitDefEqProofs (disch := omega) only [go_sem, reqD_of, dec_t, dec_f, wrap_i64, wrap_u32, wrap_u64, wrap_u8]
    exact ch_t5 h2 hl hk (by simp -dsimp -implicitDefEqProofs only [go_sem]) (by simp -dsimp -implicitDefEqProofs only [go_sem]) (by simp -dsimp -implicitDefEqProofs only [go_sem]) fun w' h' => ⟨h', rfl⟩
  simp -dsimp -implicitDefEqProofs (disch := omega) only [go_sem, reqD_of, dec_t, dec_f, wrap_i64, wrap_u32, wrap_u64, wrap_u8]
  refine (within_any h2 l hl (k + 1) 128 191).mono ?_
  rintro e' w3 ⟨h3, rfl⟩
  cases b3 : wi l (k + 1) 128 191
  · have hr : chW l k = ch1 l k := by simp [chW, b1, b3]
    rw [hr]
    simp -dsimp -implicitDefEqProofs (disch := omega) only [go_sem, reqD_of, dec_t, dec_f, wrap_i64, wrap_u32, wrap_u64, wrap_u8]
    exact ch_t5 h3 hl hk (by simp -dsimp -implicitDefEqProofs only [go_sem]) (by simp -dsimp -implicitDefEqProofs only [go_sem]) (by simp -dsimp -implicitDefEqProofs only [go_sem]) fun w' h' => ⟨h', rfl⟩
  have hr : chW l k = 2 := by simp [chW, b1, b2, b3]
  rw [hr]
  simp -dsimp -implicitDefEqProofs (disch := omega) only [go_sem, reqD_of, dec_t, dec_f, wrap_i64, wrap_u32, wrap_u64, wrap_u8]
  exact h3

section
attribute [local go_sem] F79.t6_eq F79.t3_eq F79.t7_eq
theorem refBad_any {w0 w : World} {A : HP} (h : St w0 A w) (l : List UInt8) (hl : l.length ≤ 9223372036854775800) :
    Calls Tryd.prog 79 #[.string (strOf l)] w fun e w' => St w0 A w' ∧ ∃ k : Nat, e = .returned (.int .i64 k) ∧ decide ((k : Int) = l.length) = good l := by
  refine F79.calls (by simp) ?_
  unfold F79.code
  simp -dsimp -implicitDefEqProofs (disch := omega) only [go_sem, reqD_of, dec_t, dec_f, wrap_i64, wrap_u32, wrap_u64, wrap_u8]
  refine loop_intro (fun e w' => St w0 A w' ∧ e.ds = [] ∧ e.ρ 0 = .string (strOf l) ∧ ∃ k : Nat, k ≤ l.length ∧ e.ρ 3 = .int .i64 k ∧ good l = good (l.drop k))
    (fun e _ => match e.ρ 3 with | .int _ n => (l.length - n).toNat | _ => 0) ?_ ?_
  · exact ⟨h, by simp -dsimp -implicitDefEqProofs only [go_sem], by simp -dsimp -implicitDefEqProofs only [go_sem], 0, by omega, by simp -dsimp -implicitDefEqProofs only [go_sem], rfl⟩
  rintro e w1 ⟨h1, hd, e0, k, hk, e3, hg⟩
  by_cases hlt : (k : Int) < l.length
  case neg =>
    simp -dsimp -implicitDefEqProofs (disch := omega) only [go_sem, reqD_of, dec_t, dec_f, wrap_i64, wrap_u32, wrap_u64, wrap_u8, hd, e0, e3, hlt]
    refine ⟨h1, l.length, rfl, ?_⟩
    rw [hg, List.drop_of_length_le (by omega)]
    simp [good_nil]
  have hkl : k < l.length := by omega
  have hs := good_step l k hkl
  have hle := chW_le l k hkl
  simp -dsimp -implicitDefEqProofs (disch := omega) only [go_sem, reqD_of, dec_t, dec_f, wrap_i64, wrap_u32, wrap_u64, wrap_u8, hd, e0, e3, hlt]
  refine (character_any h1 l hl k hkl).mono ?_
  rintro e' w2 ⟨h2, rfl⟩
  by_cases h0 : chW l k = 0
  · rw [if_pos (.inl h0)] at hs
    rw [h0]
    simp -dsimp -implicitDefEqProofs (disch := omega) only [go_sem, reqD_of, dec_t, dec_f, wrap_i64, wrap_u32, wrap_u64, wrap_u8, hd, e0, e3, hlt]
    refine ⟨h2, k, rfl, ?_⟩
    rw [hg, hs]
    exact decide_eq_false (by omega)
  have h0' : ¬ ((chW l k : Nat) : Int) = 0 := by omega
  obtain ⟨c, hc⟩ : ∃ c, c = (l.getD k 0).toNat := ⟨_, rfl⟩
  by_cases h4 : (c : Int) = 0
  · rw [if_pos (.inr (by rw [← hc]; omega))] at hs
    simp -dsimp -implicitDefEqProofs (disch := omega) only [go_sem, reqD_of, dec_t, dec_f, wrap_i64, wrap_u32, wrap_u64, wrap_u8, hd, e0, e3, hlt, h0', ← hc, h4]
    refine ⟨h2, k, rfl, ?_⟩
    rw [hg, hs]
    exact decide_eq_false (by omega)
  · rw [if_neg (by rw [← hc]; omega)] at hs
    simp -dsimp -implicitDefEqProofs (disch := omega) only [go_sem, reqD_of, dec_t, dec_f, wrap_i64, wrap_u32, wrap_u64, wrap_u8, hd, e0, e3, hlt, h0', ← hc, h4]
    exact ⟨⟨h2, k + chW l k, hle, by omega, by rw [hg, hs]⟩, by omega⟩

end

theorem refGood_any {w0 w : World} {A : HP} (h : St w0 A w) (l : List UInt8) (hl : l.length ≤ 9223372036854775800) :
    Calls Tryd.prog 56 #[.string (strOf l)] w fun e w' => St w0 A w' ∧ e = .returned (.bool (good l)) := by
  refine F56.calls (by simp) ?_
  unfold F56.code
  simp -dsimp -implicitDefEqProofs (disch := omega) only [go_sem, reqD_of, dec_t, dec_f, wrap_i64, wrap_u32, wrap_u64, wrap_u8]
  refine (refBad_any h l hl).mono ?_
  rintro e' w1 ⟨h1, k, rfl, hk⟩
  simp -dsimp -implicitDefEqProofs (disch := omega) only [go_sem, reqD_of, dec_t, dec_f, wrap_i64, wrap_u32, wrap_u64, wrap_u8, hk]
  exact h1

end Go.Proofs.YtijnmokpihhhcaaDoor

namespace Go.Proofs.YtijnmokpihhhcaaDoor
open Go
set_option linter.unusedVariables false
set_option linter.unusedSimpArgs false
set_option maxRecDepth 100000

theorem perm_law {p : Nat} (h : p < 4294967296) : (p &&& 4294966784 = 0) ↔ p ≤ 511 := by
  have e : p &&& 4294966784 = (p >>> 9) <<< 9 := by
    refine Nat.eq_of_testBit_eq fun i => ?_
    rw [show (4294966784 : Nat) = (2 ^ 23 - 1) <<< 9 from rfl, Nat.testBit_and, Nat.testBit_shiftLeft, Nat.testBit_two_pow_sub_one, Nat.testBit_shiftLeft, Nat.testBit_shiftRight]
    by_cases hi : 9 ≤ i
    · rw [show 9 + (i - 9) = i by omega]
      by_cases h2 : i < 32
      · simp [hi]; intro _; omega
      · have : p.testBit i = false := Nat.testBit_lt_two_pow (Nat.lt_of_lt_of_le h (show 2 ^ 32 ≤ 2 ^ i from Nat.pow_le_pow_right (by decide) (by omega)))
        simp [this]
    · simp [hi]
  rw [e, Nat.shiftLeft_eq, Nat.shiftRight_eq_div_pow]
  omega
/-- May it be? -/
def newOk (c : CfgD) : Bool := userF c.owner && userF c.group && decide (¬ (c.nodes < 1 ∨ 4096 < c.nodes ∨ 511 < c.perm) ∧ c.owner ≠ [] ∧ c.group ≠ [])
theorem newF_eq {c : CfgD} (h : CfgIn c) : newF c = if newOk c then .ok ⟨c.nodes.toNat, 2, [rootD c]⟩ else .error 1 := by
  have hp := perm_law h.perm
  unfold newF newOk
  by_cases h1 : c.nodes < 1 ∨ 4096 < c.nodes ∨ ¬ c.perm &&& 4294966784 = 0
  · rw [if_pos h1, if_neg]
    rw [hp] at h1
    have : ¬ (¬ (c.nodes < 1 ∨ 4096 < c.nodes ∨ 511 < c.perm) ∧ c.owner ≠ [] ∧ c.group ≠ []) := fun h2 => by omega
    rw [decide_eq_false this]; simp
  · rw [if_neg h1]
    rw [hp] at h1
    have h1' : ¬ (c.nodes < 1 ∨ 4096 < c.nodes ∨ 511 < c.perm) := by omega
    by_cases h2 : c.owner = [] ∨ c.group = [] ∨ userF c.owner = false ∨ userF c.group = false
    · rw [if_pos h2, if_neg]
      rcases h2 with h2 | h2 | h2 | h2
      · rw [decide_eq_false (fun h3 => h3.2.1 h2)]; simp
      · rw [decide_eq_false (fun h3 => h3.2.2 h2)]; simp
      · rw [h2]; simp
      · rw [h2]; simp
    · simp only [not_or, Bool.not_eq_false] at h2
      rw [if_neg (by simp only [not_or, Bool.not_eq_false]; exact h2), if_pos]
      rw [h2.2.2.1, h2.2.2.2, decide_eq_true ⟨h1', h2.1, h2.2.1⟩]
      rfl
end Go.Proofs.YtijnmokpihhhcaaDoor

namespace Go.Proofs.YtijnmokpihhhcaaDoor
open Go
set_option linter.unusedVariables false

theorem rSlice_choose {α β : Type} {s b : Nat} {R : Rdr α} {enc : β → List Value} {p : β → Heap → Prop} (he : ∀ x cs h, R.rel x cs h → ∃ y, cs = enc y ∧ p y h) (hk : ∀ y, (enc y).length = s) {xs : List α} {v : Value} {h : Heap}
    (c : (rSlice s b R).rel xs [v] h) : ∃ ys : List β, ys.length = xs.length ∧ (∀ y ∈ ys, p y h) ∧ Reads s v ys.length (ys.flatMap enc) h := by
  obtain ⟨a, cap, e, l, m, r, k⟩ := c
  simp only [List.cons.injEq, and_true] at e
  subst e
  rcases k with k | ⟨g, o, cur, T, fr, ea, hg, hj⟩
  · subst k
    exact ⟨[], rfl, fun y hy => by simp at hy, by simp, a, cap, rfl, l, .inl rfl⟩
  · obtain ⟨ys, hl, hy⟩ := choose_list (n := xs.length) (p := fun j (y : β) => (cur.toList.drop (o + j * s)).take s = enc y ∧ p y h) fun j hj' => he _ _ _ (hj j hj').2
    refine ⟨ys, hl, fun y hm => ?_, ?_⟩
    · obtain ⟨i, hi, rfl⟩ := List.getElem_of_mem hm
      exact (hy i hi).2
    · refine ⟨flatMap_length hk ys, a, cap, by rw [hl], by omega, .inr ⟨g, o, cur, T, fr, ea, hg, fun t ht => ?_⟩⟩
      rw [flatMap_length hk] at ht
      obtain ⟨i, j, hi, hjs, e, hf⟩ := flatMap_at_all hk ys t ht
      rw [hf, ← (hy i hi).1, e, List.getElem?_take_of_lt hjs, List.getElem?_drop, Array.getElem?_toList]
      congr 1
      omega

/-- A part of an element, as a row. -/
theorem rowV_part {w : World} {b o k lo n : Nat} {cs : List Value} (hk : cs.length = k) (hc : ∀ j, j < k → w.cell? ⟨b, o + j, none⟩ = cs[j]?) (h : lo + n ≤ k) : rowV w ⟨b, o + lo, none⟩ n = some (.agg ((cs.drop lo).take n).toArray) := by
  unfold rowV
  rw [cellsFrom_of w _ n 0 ((cs.drop lo).take n) (by rw [List.length_take, List.length_drop]; omega) fun j hj => by
    rw [Nat.zero_add, add_lit, Nat.add_assoc, hc (lo + j) (by omega), List.getElem?_take_of_lt hj, List.getElem?_drop]]
  rfl

end Go.Proofs.YtijnmokpihhhcaaDoor

namespace Go.Proofs.YtijnmokpihhhcaaDoor
open Go
set_option linter.unusedVariables false
set_option linter.unusedSimpArgs false
set_option maxRecDepth 100000

section
variable {w0 w : World} {A : HP} {c : CfgD}

theorem ofConfig_any (h : St w0 A w) (h1 : c.users.length ≤ 140737488355328) (h2 : c.owner.length ≤ 140737488355328) (h3 : c.group.length ≤ 140737488355328) :
    Calls Tryd.prog 12 #[.agg (cfgL c).toArray] w fun e w' => St w0 A w' ∧ e = .returned (.int .i64 ((100 + c.users.length + c.owner.length + c.group.length : Nat) : Int)) := by
  refine F12.calls (by simp) ?_
  unfold F12.code
  simp -dsimp -implicitDefEqProofs (disch := omega) only [go_sem, reqD_of, dec_t, dec_f, wrap_i64, wrap_u32, wrap_u64, wrap_u8]
  refine h.new fun B w1 h1 => ?_
  simp -dsimp -implicitDefEqProofs (disch := omega) only [go_sem, reqD_of, dec_t, dec_f, wrap_i64, wrap_u32, wrap_u64, wrap_u8, h1.cl B]
  exact ⟨h1.right, by omega⟩

theorem refUser_any (h : St w0 A w) {l : List UInt8} (hl : l.length ≤ 9223372036854775800) :
    Calls Tryd.prog 35 #[.string (strOf l)] w fun e w' => St w0 A w' ∧ e = .returned (.bool (userF l)) := by
  refine F35.calls (by simp) ?_
  unfold F35.code
  simp -dsimp -implicitDefEqProofs (disch := omega) only [go_sem, reqD_of, dec_t, dec_f, wrap_i64, wrap_u32, wrap_u64, wrap_u8]
  refine (refGood_any h l hl).mono ?_
  rintro e w1 ⟨h1, rfl⟩
  unfold userF
  cases hg : good l
  · simp -dsimp -implicitDefEqProofs (disch := omega) only [go_sem, reqD_of, dec_t, dec_f, wrap_i64, wrap_u32, wrap_u64, wrap_u8]
    exact h1
  · by_cases h32 : (l.length : Int) ≤ 32
    · have e1 : decide (l.length ≤ 32) = true := decide_eq_true (by omega)
      simp -dsimp -implicitDefEqProofs (disch := omega) only [go_sem, reqD_of, dec_t, dec_f, wrap_i64, wrap_u32, wrap_u64, wrap_u8, h32, e1]
      exact h1
    · have e1 : decide (l.length ≤ 32) = false := decide_eq_false (by omega)
      simp -dsimp -implicitDefEqProofs (disch := omega) only [go_sem, reqD_of, dec_t, dec_f, wrap_i64, wrap_u32, wrap_u64, wrap_u8, h32, e1]
      exact h1

/-- The reference's store of the root alone. -/
def entL (n : Inf) (vb : Value) : List Value := infL n ++ [vb]
abbrev RefOne (b : Nat) (v : Value) (c : CfgD) : HP :=
  Blk b (.cells #[.int .i64 c.nodes, .int .u64 2, v] 106 (0, 0)) * RowO 103 14 v 1 (entL (rootD c).i (.slice none 0 0))
theorem RefOne.as {b : Nat} {v : Value} {c : CfgD} {X : HP} : RefOne b v c * X = Blk b (.cells #[.int .i64 c.nodes, .int .u64 2, v] 106 (0, 0)) * (RowO 103 14 v 1 (entL (rootD c).i (.slice none 0 0)) * X) := by ac_rfl
theorem rowTy_ent : rowTy Tryd.prog 104 = some (103, 14, 152, entL infZ (.slice none 0 0)) := by kernel_rfl

section
attribute [local go_sem] F14.t5_eq
theorem refNew_any (hc : CfgIn c) (h : St w0 A w) :
    Calls Tryd.prog 14 #[.agg (cfgL c).toArray] w fun e w' =>
      if newOk c then ∃ b v, St w0 (RefOne b v c * A) w' ∧ e = .returned (.tuple #[.pointer (some ⟨b, 0, none⟩), .int .i64 0])
      else St w0 A w' ∧ e = .returned (.tuple #[.pointer none, .int .i64 1]) := by
  refine F14.calls (by simp) ?_
  unfold F14.code
  have ho := hc.owner
  have hg := hc.group
  simp -dsimp -implicitDefEqProofs (disch := omega) only [go_sem, reqD_of, dec_t, dec_f, wrap_i64, wrap_u32, wrap_u64, wrap_u8]
  refine h.new fun B w1 h1 => ?_
  simp -dsimp -implicitDefEqProofs (disch := omega) only [go_sem, reqD_of, dec_t, dec_f, wrap_i64, wrap_u32, wrap_u64, wrap_u8, h1.cl B]
  refine (refUser_any h1 (l := c.owner) (by omega)).mono ?_
  rintro e w2 ⟨h2, rfl⟩
  simp -dsimp -implicitDefEqProofs (disch := omega) only [go_sem, reqD_of, dec_t, dec_f, wrap_i64, wrap_u32, wrap_u64, wrap_u8, h2.cl B]
  refine (refUser_any h2 (l := c.group) (by omega)).mono ?_
  rintro e w3 ⟨h3, rfl⟩
  by_cases c1 : c.nodes < 1
  · have hr : newOk c = false := by unfold newOk; rw [decide_eq_false (fun hh => hh.1 (.inl c1))]; simp
    rw [hr]
    simp -dsimp -implicitDefEqProofs (disch := omega) only [go_sem, reqD_of, dec_t, dec_f, wrap_i64, wrap_u32, wrap_u64, wrap_u8, h3.cl B, c1]
    exact h3.right
  by_cases c2 : 4096 < c.nodes
  · have hr : newOk c = false := by unfold newOk; rw [decide_eq_false (fun hh => hh.1 (.inr (.inl c2)))]; simp
    rw [hr]
    simp -dsimp -implicitDefEqProofs (disch := omega) only [go_sem, reqD_of, dec_t, dec_f, wrap_i64, wrap_u32, wrap_u64, wrap_u8, h3.cl B, c1, c2]
    exact h3.right
  by_cases c3 : (511 : Int) < c.perm
  · have hr : newOk c = false := by unfold newOk; rw [decide_eq_false (fun hh => hh.1 (.inr (.inr (by omega))))]; simp
    rw [hr]
    simp -dsimp -implicitDefEqProofs (disch := omega) only [go_sem, reqD_of, dec_t, dec_f, wrap_i64, wrap_u32, wrap_u64, wrap_u8, h3.cl B, c1, c2, c3]
    exact h3.right
  cases g1 : userF c.owner
  case false =>
    have hr : newOk c = false := by unfold newOk; rw [g1]; rfl
    rw [hr]
    simp -dsimp -implicitDefEqProofs (disch := omega) only [go_sem, reqD_of, dec_t, dec_f, wrap_i64, wrap_u32, wrap_u64, wrap_u8, h3.cl B, c1, c2, c3]
    exact h3.right
  cases g2 : userF c.group
  case false =>
    have hr : newOk c = false := by unfold newOk; rw [g2]; simp
    rw [hr]
    simp -dsimp -implicitDefEqProofs (disch := omega) only [go_sem, reqD_of, dec_t, dec_f, wrap_i64, wrap_u32, wrap_u64, wrap_u8, h3.cl B, c1, c2, c3]
    exact h3.right
  by_cases c4 : c.owner = []
  · have hr : newOk c = false := by unfold newOk; rw [decide_eq_false (fun hh => hh.2.1 c4)]; simp
    have e4 : decide (c.owner = []) = true := decide_eq_true c4
    rw [hr]
    simp -dsimp -implicitDefEqProofs (disch := omega) only [go_sem, reqD_of, dec_t, dec_f, wrap_i64, wrap_u32, wrap_u64, wrap_u8, h3.cl B, c1, c2, c3, e4]
    exact h3.right
  by_cases c5 : c.group = []
  · have hr : newOk c = false := by unfold newOk; rw [decide_eq_false (fun hh => hh.2.2 c5)]; simp
    have e5 : decide (c.group = []) = true := decide_eq_true c5
    rw [hr]
    simp -dsimp -implicitDefEqProofs (disch := omega) only [go_sem, reqD_of, dec_t, dec_f, wrap_i64, wrap_u32, wrap_u64, wrap_u8, h3.cl B, c1, c2, c3, c4, e5]
    exact h3.right
  have hr : newOk c = true := by unfold newOk; rw [g1, g2, decide_eq_true ⟨by omega, c4, c5⟩]; rfl
  rw [hr]
  have hd := bDirO (P := Tryd.prog) (T := 29) hc.perm
  simp -dsimp -implicitDefEqProofs (disch := omega) only [go_sem, reqD_of, dec_t, dec_f, wrap_i64, wrap_u32, wrap_u64, wrap_u8, h3.cl B, c1, c2, c3, c4, c5, hd]
  refine onV_of (v := .agg (infL (rootD c).i).toArray) (by kernel_rfl) ?_
  simp -dsimp -implicitDefEqProofs (disch := omega) only [go_sem, reqD_of, dec_t, dec_f, wrap_i64, wrap_u32, wrap_u64, wrap_u8, h3.cl B, c1, c2, c3, c4, c5, hd]
  refine h3.new fun D w4 h4 => ?_
  simp -dsimp -implicitDefEqProofs (disch := omega) only [go_sem, reqD_of, dec_t, dec_f, wrap_i64, wrap_u32, wrap_u64, wrap_u8]
  refine h4.stoAll (b := D) (cs := infL (rootD c).i) rfl rfl (infL_cells _) fun w5 h5 => ?_
  simp -dsimp -implicitDefEqProofs (disch := omega) only [go_sem, reqD_of, dec_t, dec_f, wrap_i64, wrap_u32, wrap_u64, wrap_u8, h5.right.cl B, h5.rowH D 13 rfl]
  refine onV_of (v := .agg (entL (rootD c).i (.slice none 0 0)).toArray) (by kernel_rfl) ?_
  simp -dsimp -implicitDefEqProofs (disch := omega) only [go_sem, reqD_of, dec_t, dec_f, wrap_i64, wrap_u32, wrap_u64, wrap_u8, h5.right.cl B, h5.rowH D 13 rfl]
  refine h5.lit (t := 104) (n := 1) (cells := entL (rootD c).i (.slice none 0 0)) rowTy_ent (by kernel_rfl) (by decide) (by decide) fun v w6 h6 => ?_
  obtain ⟨a6, c6, rfl, _⟩ := h6.rowForm v
  simp -dsimp -implicitDefEqProofs (disch := omega) only [go_sem, reqD_of, dec_t, dec_f, wrap_i64, wrap_u32, wrap_u64, wrap_u8, h6.right.right.cl B]
  refine onV_of (v := .agg #[.int .i64 c.nodes, .int .u64 2, .slice a6 1 c6]) (by kernel_rfl) ?_
  simp -dsimp -implicitDefEqProofs (disch := omega) only [go_sem, reqD_of, dec_t, dec_f, wrap_i64, wrap_u32, wrap_u64, wrap_u8]
  refine h6.new fun E w7 h7 => ?_
  simp -dsimp -implicitDefEqProofs (disch := omega) only [go_sem, reqD_of, dec_t, dec_f, wrap_i64, wrap_u32, wrap_u64, wrap_u8]
  exact ⟨E, _, h7.ent (Ent.sep (Ent.rfl' _) (Ent.sep (Ent.rfl' _) ((Ent.right _ _).trans (Ent.right _ _)))) |>.ac (by ac_rfl), rfl⟩

end
section
attribute [local go_sem] F39.t3_eq F39.t4_eq F39.t6_eq
theorem refAt_one {b : Nat} {v : Value} (h : St w0 (RefOne b v c * A) w) :
    Calls Tryd.prog 39 #[.pointer (some ⟨b, 0, none⟩), .int .u64 1] w fun e w' => St w0 (RefOne b v c * A) w' ∧ e = .returned (.int .i64 0) := by
  have h := h.ac (show _ = Blk b (.cells #[.int .i64 c.nodes, .int .u64 2, v] 106 (0, 0)) * (RowO 103 14 v 1 (entL (rootD c).i (.slice none 0 0)) * A) by ac_rfl)
  refine F39.calls (by simp) ?_
  unfold F39.code
  obtain ⟨a, cp, rfl, _⟩ := h.sw2.rowForm v
  have hr : St w0 (Reads 14 (.slice a 1 cp) 1 ([(rootD c).i].flatMap fun n => entL n (.slice none 0 0))) w := by
    rw [List.flatMap_cons, List.flatMap_nil, List.append_nil]
    exact h.right.left.ent (RowO.reads _ _ _ _ _)
  obtain ⟨_, a', c', hv, _, hat⟩ := St.rowsAt (enc := fun n => entL n (.slice none 0 0)) (l := [(rootD c).i]) (k := 14) (fun _ => rfl) (by decide) hr
  obtain ⟨g, o, ha, _, hcell⟩ := hat 0 (by show 0 < 1; decide)
  simp only [Value.slice.injEq, true_and] at hv
  obtain ⟨rfl, rfl⟩ := hv
  subst ha
  have p0 : w.cell? ⟨g, o, none⟩ = some (.int .u64 1) := hcell 0 (by decide)
  simp -dsimp -implicitDefEqProofs (disch := omega) only [go_sem, reqD_of, dec_t, dec_f, wrap_i64, wrap_u32, wrap_u64, wrap_u8]
  refine loop_intro (fun e w' => e.ds = [] ∧ e.ρ 0 = .pointer (some ⟨b, 0, none⟩) ∧ e.ρ 1 = .int .u64 1 ∧ e.ρ 5 = .int .i64 0 ∧ w' = w) (fun _ _ => 0) ?_ ?_
  · exact ⟨by simp -dsimp -implicitDefEqProofs only [go_sem], by simp -dsimp -implicitDefEqProofs only [go_sem], by simp -dsimp -implicitDefEqProofs only [go_sem], by simp -dsimp -implicitDefEqProofs only [go_sem], rfl⟩
  rintro e w1 ⟨hd, e0, e1, e5, rfl⟩
  simp -dsimp -implicitDefEqProofs (disch := omega) only [go_sem, reqD_of, dec_t, dec_f, wrap_i64, wrap_u32, wrap_u64, wrap_u8, hd, e0, e1, e5, h.cl b, p0]
  exact h.ac (by ac_rfl)

end
section
attribute [local go_sem] F16.t4_eq
theorem refNode_one {b : Nat} {v : Value} (h : St w0 (RefOne b v c * A) w) :
    Calls Tryd.prog 16 #[.pointer (some ⟨b, 0, none⟩), .int .u64 1] w fun e w' => St w0 (RefOne b v c * A) w' ∧ e = .returned (.tuple #[.agg (infL (rootD c).i).toArray, .bool true]) := by
  refine F16.calls (by simp) ?_
  unfold F16.code
  simp -dsimp -implicitDefEqProofs (disch := omega) only [go_sem, reqD_of, dec_t, dec_f, wrap_i64, wrap_u32, wrap_u64, wrap_u8]
  refine h.new fun D w1 h1 => ?_
  simp -dsimp -implicitDefEqProofs (disch := omega) only [go_sem, reqD_of, dec_t, dec_f, wrap_i64, wrap_u32, wrap_u64, wrap_u8]
  have h1 := h1.sw2
  refine (refAt_one h1).mono ?_
  rintro e w2 ⟨h2, rfl⟩
  have h2 := h2.ac RefOne.as
  obtain ⟨a, cp, rfl, _⟩ := h2.sw2.rowForm v
  have hr : St w0 (Reads 14 (.slice a 1 cp) 1 ([(rootD c).i].flatMap fun n => entL n (.slice none 0 0))) w2 := by
    rw [List.flatMap_cons, List.flatMap_nil, List.append_nil]
    exact h2.right.left.ent (RowO.reads _ _ _ _ _)
  obtain ⟨_, a', c', hv, _, hat⟩ := St.rowsAt (enc := fun n => entL n (.slice none 0 0)) (l := [(rootD c).i]) (k := 14) (fun _ => rfl) (by decide) hr
  obtain ⟨g, o, ha, hrow, hcell⟩ := hat 0 (by show 0 < 1; decide)
  simp only [Value.slice.injEq, true_and] at hv
  obtain ⟨rfl, rfl⟩ := hv
  subst ha
  have p1 : rowV w2 ⟨g, o, none⟩ 13 = some (.agg (infL (rootD c).i).toArray) := rowV_part (lo := 0) (k := 14) (n := 13) (cs := entL (rootD c).i (.slice none 0 0)) rfl (o := o) (fun j hj => by have := hcell j hj; rwa [Nat.zero_mul, Nat.add_zero] at this) (by decide)
  simp -dsimp -implicitDefEqProofs (disch := omega) only [go_sem, reqD_of, dec_t, dec_f, wrap_i64, wrap_u32, wrap_u64, wrap_u8, h2.cl b, p1]
  refine h2.stoAll (b := D) (cs := infL (rootD c).i) rfl rfl (infL_cells _) fun w3 h3 => ?_
  simp -dsimp -implicitDefEqProofs (disch := omega) only [go_sem, reqD_of, dec_t, dec_f, wrap_i64, wrap_u32, wrap_u64, wrap_u8]
  refine resC_2 (a := ⟨D, 0, none⟩) (v := .agg (infL (rootD c).i).toArray) (by simp -dsimp -implicitDefEqProofs only [go_sem]) (run_loadVar_row fact_aggSz_41 (h3.rowH D 13 rfl)) ?_
  refine ⟨?_, by simp -dsimp -implicitDefEqProofs only [go_sem]⟩
  exact (h3.sw3.right).ac RefOne.as.symm

end
end
end Go.Proofs.YtijnmokpihhhcaaDoor

namespace Go.Proofs.YtijnmokpihhhcaaDoor
open Go
set_option linter.unusedVariables false

theorem flatMap_one {α β : Type} (f : α → β) (l : List α) : (l.flatMap fun x => [f x]) = l.map f := by
  induction l with
  | nil => rfl
  | cons a l ih => simp [ih]
theorem wf_i64 {z : Int} (h : (Lit.int .i64 z).wf = true) : -9223372036854775808 ≤ z ∧ z ≤ 9223372036854775807 := by
  simpa [Lit.wf, IntKind.min, IntKind.max, IntKind.signed, IntKind.bits] using h
theorem rSlice_len {α : Type} {s b : Nat} {R : Rdr α} {xs : List α} {v : Value} {h : Heap} (k : (rSlice s b R).rel xs [v] h) : xs.length * b ≤ reachBytes := by
  obtain ⟨_, _, _, _, _, r, _⟩ := k
  exact r
theorem rSlice_all {α : Type} {s b : Nat} {R : Rdr α} {xs : List α} {v : Value} {h : Heap} {p : α → Prop} (hp : ∀ x cs h, R.rel x cs h → p x) (k : (rSlice s b R).rel xs [v] h) : ∀ x ∈ xs, p x := by
  obtain ⟨_, _, _, _, _, _, k⟩ := k
  intro x hx
  rcases k with rfl | ⟨_, _, _, _, _, _, _, hj⟩
  · simp at hx
  · obtain ⟨j, hj', rfl⟩ := List.mem_iff_getElem.1 hx
    exact hp _ _ _ (hj j hj').2
theorem ints_arg {W : World} {xs : List Int} {v : Value} (k : (rSlice 1 8 (rInt .i64)).rel xs [v] (heapOf W)) :
    Ent (Old W) (Reads 1 v xs.length (xs.map fun z => .int .i64 z)) ∧ (∀ z ∈ xs, -9223372036854775808 ≤ z ∧ z ≤ 9223372036854775807) ∧ xs.length ≤ 4611686018427387904 := by
  refine ⟨?_, rSlice_all (R := rInt .i64) (fun x cs h e => wf_i64 e.2) k, ?_⟩
  · have := (Rdr.old k).trans (rSlice_reads (R := rInt .i64) (enc := fun z => [.int .i64 z]) (fun x cs h e => e.1) (fun _ => rfl))
    rwa [flatMap_one] at this
  · have := rSlice_len k
    have := reachBytes_lt
    omega
theorem texts_arg {W : World} {xs : List ByteArray} {v : Value} (k : (rSlice 1 16 rStr).rel xs [v] (heapOf W)) :
    Ent (Old W) (Reads 1 v (xs.map fun s => s.data.toList).length ((xs.map fun s => s.data.toList).map sv)) ∧ (xs.map fun s => s.data.toList).length ≤ 4611686018427387904 ∧ ∀ s ∈ xs.map fun s => s.data.toList, s.length ≤ 140737488355328 := by
  refine ⟨?_, ?_, ?_⟩
  · have := (Rdr.old k).trans (rSlice_reads (R := rStr) (enc := fun s => [.string s]) (fun x cs h e => e.1) (fun _ => rfl))
    rw [flatMap_one] at this
    rw [List.length_map, List.map_map]
    have e : (sv ∘ fun (s : ByteArray) => s.data.toList) = fun s => .string s := by
      funext s
      simp [sv, strOf_eta]
    rw [e]; exact this
  · have := rSlice_len k
    have := reachBytes_lt
    simp
    omega
  · intro s hs
    obtain ⟨x, hx, rfl⟩ := List.mem_map.1 hs
    have h1 := rSlice_all (R := rStr) (p := fun s => s.size ≤ reachBytes) (fun x cs h e => e.2) k x hx
    rw [Lib.size_eq] at h1
    have := reachBytes_lt
    omega
end Go.Proofs.YtijnmokpihhhcaaDoor

namespace Go.Proofs.YtijnmokpihhhcaaDoor
open Go
set_option linter.unusedVariables false
set_option linter.unusedSimpArgs false
set_option maxRecDepth 100000

theorem bytes_arg {W : World} {xs : List Int} {v : Value} {h : Heap} (k : (rSlice 1 1 (rInt .u8)).rel xs [v] h) : ∃ bs : List UInt8, RdB v bs h ∧ bs.length ≤ reachBytes := by
  obtain ⟨bs, hl, _, h2⟩ := rSlice_choose (β := UInt8) (enc := fun b => [bv b]) (p := fun _ _ => True) (fun x cs h r => by
    obtain ⟨rfl, w⟩ := r
    have hw : 0 ≤ x ∧ x ≤ 255 := by simpa [Lit.wf, IntKind.min, IntKind.max, IntKind.signed, IntKind.bits] using w
    refine ⟨UInt8.ofNat x.toNat, ?_, trivial⟩
    have : (((UInt8.ofNat x.toNat).toNat : Nat) : Int) = x := by simp; omega
    simp only [bv, this]) (fun _ => rfl) k
  have := rSlice_len k
  rw [flatMap_one] at h2
  exact ⟨bs, h2, by omega⟩

/-- An operation, and its data's slice. -/
structure OpV where
  o : OpD
  v : Value
def opVL (x : OpV) : List Value := opL x.o x.v
theorem opVL_len (x : OpV) : (opVL x).length = 20 := rfl
structure OpIs (x : OpV) (h : Heap) : Prop where
  kind : x.o.kind < 256
  mask : x.o.mask < 256
  offset : x.o.offset < 18446744073709551616
  mode : x.o.node.mode < 4294967296
  atime : x.o.node.atime < 4294967296
  mtime : x.o.node.mtime < 4294967296
  n0 : -9223372036854775808 ≤ x.o.n
  n1 : x.o.n ≤ 9223372036854775807
  data : RdB x.v x.o.data h
  dlen : x.o.data.length ≤ 140737488355328
  name : x.o.name.length ≤ 140737488355328
  nname : x.o.node.name.length ≤ 140737488355328
  uid : x.o.node.uid.length ≤ 140737488355328
  gid : x.o.node.gid.length ≤ 140737488355328
  muid : x.o.node.muid.length ≤ 140737488355328

abbrev rInf := rCons 1 (rInt .u64) (rCons 1 (rInt .u64) (rCons 1 rStr (rCons 1 (rInt .u32) (rCons 1 rStr (rCons 1 rStr (rCons 1 rStr (rCons 1 (rInt .u32) (rCons 1 (rInt .u32) (rCons 1 (rInt .u32) (rCons 1 (rInt .u64) (rCons 1 (rInt .i64) (rCons 1 (rInt .i64) (rEnd)))))))))))))
abbrev rOp := rCons 1 (rInt .u8) (rCons 1 (rInt .u64) (rCons 1 rStr (rCons 1 (rInt .u8) (rCons 13 rInf (rCons 1 (rInt .u64) (rCons 1 (rSlice 1 1 (rInt .u8)) (rCons 1 (rInt .i64) (rEnd))))))))

theorem wf_u8 {z : Int} (h : (Lit.int .u8 z).wf = true) : ((z.toNat : Nat) : Int) = z ∧ z.toNat < 256 := by
  have : 0 ≤ z ∧ z ≤ 255 := by simpa [Lit.wf, IntKind.min, IntKind.max, IntKind.signed, IntKind.bits] using h
  omega
theorem wf_u32 {z : Int} (h : (Lit.int .u32 z).wf = true) : ((z.toNat : Nat) : Int) = z ∧ z.toNat < 4294967296 := by
  have : 0 ≤ z ∧ z ≤ 4294967295 := by simpa [Lit.wf, IntKind.min, IntKind.max, IntKind.signed, IntKind.bits] using h
  omega
theorem wf_u64 {z : Int} (h : (Lit.int .u64 z).wf = true) : ((z.toNat : Nat) : Int) = z ∧ z.toNat < 18446744073709551616 := by
  have : 0 ≤ z ∧ z ≤ 18446744073709551615 := by simpa [Lit.wf, IntKind.min, IntKind.max, IntKind.signed, IntKind.bits] using h
  omega
theorem str_reach {s : ByteArray} (h : s.size ≤ reachBytes) : s.data.toList.length ≤ 140737488355328 := by
  have hq : reachBytes = 140737488351232 := rfl
  rw [Lib.size_eq] at h
  omega
theorem rOp_cells {x} {cs : List Value} {h : Heap} (r : rOp.rel x cs h) : ∃ y : OpV, cs = opVL y ∧ OpIs y h := by
  obtain ⟨x1, x2, x3, x4, ⟨y1, y2, y3, y4, y5, y6, y7, y8, y9, y10, y11, y12, y13, _⟩, x6, x7, x8, _⟩ := x
  obtain ⟨_, _, rfl, _, ⟨rfl, w1⟩, _, _, rfl, _, ⟨rfl, w2⟩, _, _, rfl, _, ⟨rfl, w3⟩, _, _, rfl, _, ⟨rfl, w4⟩, ci, _, rfl, _, ri, _, _, rfl, _, ⟨rfl, w6⟩, cd, _, rfl, hl7, r7, _, _, rfl, _, ⟨rfl, w8⟩, rfl⟩ := r
  obtain ⟨_, _, rfl, _, ⟨rfl, i1⟩, _, _, rfl, _, ⟨rfl, i2⟩, _, _, rfl, _, ⟨rfl, i3⟩, _, _, rfl, _, ⟨rfl, i4⟩, _, _, rfl, _, ⟨rfl, i5⟩, _, _, rfl, _, ⟨rfl, i6⟩, _, _, rfl, _, ⟨rfl, i7⟩, _, _, rfl, _, ⟨rfl, i8⟩, _, _, rfl, _, ⟨rfl, i9⟩, _, _, rfl, _, ⟨rfl, i10⟩, _, _, rfl, _, ⟨rfl, i11⟩, _, _, rfl, _, ⟨rfl, i12⟩, _, _, rfl, _, ⟨rfl, i13⟩, rfl⟩ := ri
  obtain ⟨v, rfl⟩ : ∃ v, cd = [v] := by
    match cd, hl7 with
    | [v], _ => exact ⟨v, rfl⟩
  obtain ⟨bs, hb, hbl⟩ := bytes_arg (W := default) r7
  obtain ⟨a1, a2⟩ := wf_u8 w1
  obtain ⟨b1, b2⟩ := wf_u64 w2
  obtain ⟨c1, c2⟩ := wf_u8 w4
  obtain ⟨d1, d2⟩ := wf_u64 w6
  obtain ⟨e1, e2⟩ := wf_i64 w8
  obtain ⟨f1, f2⟩ := wf_u64 i1
  obtain ⟨g1, g2⟩ := wf_u64 i2
  obtain ⟨h1, h2⟩ := wf_u32 i4
  obtain ⟨k1, k2⟩ := wf_u32 i8
  obtain ⟨l1, l2⟩ := wf_u32 i9
  obtain ⟨m1, m2⟩ := wf_u32 i10
  obtain ⟨n1, n2⟩ := wf_u64 i11
  have hq : reachBytes = 140737488351232 := rfl
  refine ⟨⟨⟨x1.toNat, x2.toNat, x3.data.toList, x4.toNat, ⟨y1.toNat, y2.toNat, y3.data.toList, y4.toNat, y5.data.toList, y6.data.toList, y7.data.toList, y8.toNat, y9.toNat, y10.toNat, y11.toNat, y12, y13⟩, x6.toNat, bs, x8⟩, v⟩, ?_, ⟨a2, c2, d2, h2, k2, l2, e1, e2, hb, (by show bs.length ≤ 140737488355328; omega), str_reach w3, str_reach i3, str_reach i5, str_reach i6, str_reach i7⟩⟩
  simp only [opVL, opL, strOf_eta, a1, b1, c1, d1, f1, g1, h1, k1, l1, m1, n1, List.cons_append, List.nil_append]
end Go.Proofs.YtijnmokpihhhcaaDoor

namespace Go.Proofs.YtijnmokpihhhcaaDoor
open Go
set_option linter.unusedVariables false
set_option linter.unusedSimpArgs false
set_option maxRecDepth 100000

theorem told_root (c : CfgD) (n : Nat) : toldI ⟨n, 2, [rootD c]⟩ 1 = (rootD c).i := rfl
section
variable {w0 w : World} {A : HP} {c : CfgD}
section
attribute [local go_sem] F4.t10_eq F4.t8_eq F4.t4_eq
theorem made_any [Gives A Tabs] (hp : c.perm < 4294967296) (hn : -9223372036854775808 ≤ c.nodes ∧ c.nodes ≤ 9223372036854775807) (h1 : c.users.length ≤ 140737488355328) (h2 : c.owner.length ≤ 140737488355328) (h3 : c.group.length ≤ 140737488355328) (h : St w0 A w) :
    Calls Tryd.prog 4 #[.agg (cfgL c).toArray] w fun e w' => St w0 A w' ∧ e = .returned (.bool true) := by
  refine F4.calls (by simp) ?_
  unfold F4.code
  simp -dsimp -implicitDefEqProofs (disch := omega) only [go_sem, reqD_of, dec_t, dec_f, wrap_i64, wrap_u32, wrap_u64, wrap_u8]
  refine h.new fun B w1 hw1 => ?_
  simp -dsimp -implicitDefEqProofs (disch := omega) only [go_sem, reqD_of, dec_t, dec_f, wrap_i64, wrap_u32, wrap_u64, wrap_u8]
  refine (works_any hw1).mono ?_
  rintro e w2 ⟨hw2, rfl⟩
  simp -dsimp -implicitDefEqProofs (disch := omega) only [go_sem, reqD_of, dec_t, dec_f, wrap_i64, wrap_u32, wrap_u64, wrap_u8, hw2.cl B]
  refine (ofConfig_any hw2 h1 h2 h3).mono ?_
  rintro e w3 ⟨hw3, rfl⟩
  by_cases hbig : (8388608 : Int) < ((100 + c.users.length + c.owner.length + c.group.length : Nat) : Int)
  · simp -dsimp -implicitDefEqProofs (disch := omega) only [go_sem, reqD_of, dec_t, dec_f, wrap_i64, wrap_u32, wrap_u64, wrap_u8, hbig]
    exact hw3.right
  have hc : CfgIn c := ⟨hp, hn.1, hn.2, by omega, by omega⟩
  simp -dsimp -implicitDefEqProofs (disch := omega) only [go_sem, reqD_of, dec_t, dec_f, wrap_i64, wrap_u32, wrap_u64, wrap_u8, hbig, hw3.cl B]
  refine (new_any hc hw3).mono ?_
  intro e w4 hq
  rw [newF_eq hc] at hq
  cases hok : newOk c
  · rw [hok] at hq
    obtain ⟨hw4, rfl⟩ := hq
    simp -dsimp -implicitDefEqProofs (disch := omega) only [go_sem, reqD_of, dec_t, dec_f, wrap_i64, wrap_u32, wrap_u64, wrap_u8, hw4.cl B]
    refine (refNew_any hc hw4).mono ?_
    intro e w5 hq
    rw [hok] at hq
    obtain ⟨hw5, rfl⟩ := hq
    simp -dsimp -implicitDefEqProofs (disch := omega) only [go_sem, reqD_of, dec_t, dec_f, wrap_i64, wrap_u32, wrap_u64, wrap_u8, beq_self_eq_true]
    exact hw5.right
  · rw [hok] at hq
    obtain ⟨b, hw4, rfl⟩ := hq
    have hw4 := hw4
    simp -dsimp -implicitDefEqProofs (disch := omega) only [go_sem, reqD_of, dec_t, dec_f, wrap_i64, wrap_u32, wrap_u64, wrap_u8, hw4.right.cl B]
    refine (refNew_any hc hw4).mono ?_
    intro e w5 hq
    rw [hok] at hq
    obtain ⟨bR, v, hw5, rfl⟩ := hq
    simp -dsimp -implicitDefEqProofs (disch := omega) only [go_sem, reqD_of, dec_t, dec_f, wrap_i64, wrap_u32, wrap_u64, wrap_u8, beq_self_eq_true]
    refine (node_any (p := 1) (hw5.sw2)).mono ?_
    rintro e w6 ⟨hw6, rfl⟩
    rw [toldV, told_root]
    have hf : (findN [rootD c] 1).isSome = true := rfl
    simp -dsimp -implicitDefEqProofs (disch := omega) only [go_sem, reqD_of, dec_t, dec_f, wrap_i64, wrap_u32, wrap_u64, wrap_u8, hf]
    refine hw6.new fun D w7 hw7 => ?_
    simp -dsimp -implicitDefEqProofs (disch := omega) only [go_sem, reqD_of, dec_t, dec_f, wrap_i64, wrap_u32, wrap_u64, wrap_u8]
    refine hw7.stoAll (b := D) (cs := infL (rootD c).i) rfl rfl (infL_cells _) fun w8 hw8 => ?_
    simp -dsimp -implicitDefEqProofs (disch := omega) only [go_sem, reqD_of, dec_t, dec_f, wrap_i64, wrap_u32, wrap_u64, wrap_u8]
    refine (refNode_one (hw8.sw3)).mono ?_
    rintro e w9 ⟨hw9, rfl⟩
    simp -dsimp -implicitDefEqProofs (disch := omega) only [go_sem, reqD_of, dec_t, dec_f, wrap_i64, wrap_u32, wrap_u64, wrap_u8]
    refine hw9.new fun E w10 hw10 => ?_
    simp -dsimp -implicitDefEqProofs (disch := omega) only [go_sem, reqD_of, dec_t, dec_f, wrap_i64, wrap_u32, wrap_u64, wrap_u8]
    refine hw10.stoAll (b := E) (cs := infL (rootD c).i) rfl rfl (infL_cells _) fun w11 hw11 => ?_
    simp -dsimp -implicitDefEqProofs (disch := omega) only [go_sem, reqD_of, dec_t, dec_f, wrap_i64, wrap_u32, wrap_u64, wrap_u8]
    have hw11 := hw11.ac (show _ = StoreP b 0 0 ⟨c.nodes.toNat, 2, [rootD c]⟩ * (Blk E (.cells (infL (rootD c).i).toArray 41 (0, 0)) * (Blk D (.cells (infL (rootD c).i).toArray 41 (0, 0)) * (RefOne bR v c * (Blk B (.cells (cfgL c).toArray 32 (0, 0)) * A)))) by ac_rfl)
    refine (next_any hw11).mono ?_
    rintro e w12 ⟨hw12, rfl⟩
    simp -dsimp -implicitDefEqProofs (disch := omega) only [go_sem, reqD_of, dec_t, dec_f, wrap_i64, wrap_u32, wrap_u64, wrap_u8]
    refine (count_any hw12).mono ?_
    rintro e w13 ⟨hw13, rfl⟩
    simp -dsimp -implicitDefEqProofs (disch := omega) only [go_sem, reqD_of, dec_t, dec_f, wrap_i64, wrap_u32, wrap_u64, wrap_u8, hw13.cl D, hw13.cl E]
    exact ⟨hw13.right.right.right.right.right, rfl⟩
end
end

/-! ### The argument -/

abbrev rCfg := rCons 1 rStr (rCons 1 rStr (rCons 1 rStr (rCons 1 (rInt .u32) (rCons 1 (rInt .u64) (rCons 1 (rInt .u32) (rCons 1 (rInt .i64) (rCons 1 (rInt .i64) (rCons 1 (rInt .i64) (rCons 1 (rInt .i64) (rEnd))))))))))
theorem rCfg_cells {x} {cs : List Value} {h : Heap} (r : rCfg.rel x cs h) : ∃ y : CfgD, cs = cfgL y ∧ y.perm < 4294967296 ∧ (-9223372036854775808 ≤ y.nodes ∧ y.nodes ≤ 9223372036854775807) ∧ y.users.length ≤ 140737488355328 ∧ y.owner.length ≤ 140737488355328 ∧ y.group.length ≤ 140737488355328 := by
  obtain ⟨x1, x2, x3, x4, x5, x6, x7, x8, x9, x10, _⟩ := x
  obtain ⟨_, _, rfl, _, ⟨rfl, w1⟩, _, _, rfl, _, ⟨rfl, w2⟩, _, _, rfl, _, ⟨rfl, w3⟩, _, _, rfl, _, ⟨rfl, w4⟩, _, _, rfl, _, ⟨rfl, w5⟩, _, _, rfl, _, ⟨rfl, w6⟩, _, _, rfl, _, ⟨rfl, w7⟩, _, _, rfl, _, ⟨rfl, w8⟩, _, _, rfl, _, ⟨rfl, w9⟩, _, _, rfl, _, ⟨rfl, w10⟩, rfl⟩ := r
  obtain ⟨a1, a2⟩ := wf_u32 w4
  refine ⟨⟨x1.data.toList, x2.data.toList, x3.data.toList, x4.toNat, x5, x6, x7, x8, x9, x10⟩, ?_, a2, wf_i64 w9, str_reach w1, str_reach w2, str_reach w3⟩
  simp only [cfgL, strOf_eta, a1, List.cons_append, List.nil_append]
end Go.Proofs.YtijnmokpihhhcaaDoor
