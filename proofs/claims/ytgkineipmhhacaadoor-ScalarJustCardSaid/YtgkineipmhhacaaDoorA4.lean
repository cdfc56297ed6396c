/- Words and contracts of functions for the statement's proof. No condition. -/
import Derived.Test.YtgkineipmhhacaaDoorA3
import Derived.Test.YtgkineipmhhacaaDoorProg
import Derived.KernelRfl
set_option linter.all false

/- An element that a law is given. -/
namespace Go.Ga
open Go

theorem list_three {cs : List Value} {a b c : Value} (hl : cs.length = 3) (h0 : (cs.drop 0).take 1 = [a]) (h1 : (cs.drop 1).take 1 = [b]) (h2 : (cs.drop 2).take 1 = [c]) : cs = [a, b, c] := by
  match cs, hl with
  | [x, y, z], _ =>
    simp at h0 h1 h2
    rw [h0, h1, h2]

section
variable {H : Type} {enc : TypeId × Value → H} {P : Program} {w : World} {held : Bool} {t : TypeId}

/-- The types of a node, as the program has them. -/
structure NodeT (P : Program) (t ti tb tk te : TypeId) : Prop where
  str : ∃ fs : Array Field, P.underlying t = some (.struct fs) ∧ (fs[0]?).map (fun f => (f.type, f.offset)) = some (ti, 0) ∧ (fs[1]?).map (fun f => (f.type, f.offset)) = some (tb, 1) ∧ (fs[2]?).map (fun f => (f.type, f.offset)) = some (tk, 2)
  int : P.underlying ti = some (.int .i64)
  bytes : P.underlying tb = some (.slice te)
  byte : P.underlying te = some (.int .u8)
  kids : P.underlying tk = some (.slice t)
  ct : P.cellsOf t = 3
  ci : P.cellsOf ti = 1
  cb : P.cellsOf tb = 1
  ce : P.cellsOf te = 1
  ck : P.cellsOf tk = 1

theorem Shp.nodes {f : Nat} {t ti tb tk te : TypeId} (hT : NodeT P t ti tb tk te) (hnode : ∀ cs, Shp enc P w held f t cs → ∃ (x : Fo.El) (B : Option Addr) (m d : Nat) (A : Option Addr) (n c : Nat) (ks : List Value), cs.map (absC w) = nodeL x.t B m d A n c ∧ NdR w.heap.size (m0 w).get x B m d A n c ks)
    {cs : List Value} {tk' : TypeId} (hk : P.underlying tk' = some (.slice t)) (h : Shp enc P w held (f + 1) tk' cs) :
    ∃ (v : Value) (A : Option Addr) (n c : Nat) (F : Fo) (ks : List Value), cs = [v] ∧ absC w v = .slice A n c ∧ n ≤ c ∧ n = F.len ∧ Row w.heap.size (m0 w).get 3 A (n * 3) ks ∧ FoR w.heap.size (m0 w).get F ks := by
  obtain ⟨n, v, A, len, cap, l, hf, rfl, h2, h3, h4, h5, h6⟩ := h.slice hk (by rw [hT.ct]; omega)
  injection hf with hf
  subst hf
  rw [hT.ct] at h4 h5 h6
  have key : ∀ i, i ≤ len → ∃ F : Fo, F.len = i ∧ FoR w.heap.size (m0 w).get F ((l.map (absC w)).take (i * 3)) := by
    intro i
    induction i with
    | zero => intro _; exact ⟨.nil, rfl, by rw [Nat.zero_mul]; rfl⟩
    | succ i ih =>
      intro hi
      obtain ⟨F, e1, e2⟩ := ih (by omega)
      obtain ⟨x, B, m, d, A', n', c', ks', g1, g2⟩ := hnode _ (h6 i (by omega))
      refine ⟨F.app x.f, by rw [Fo.len_app, e1]; rfl, ?_⟩
      have e : (l.map (absC w)).take ((i + 1) * 3) = (l.map (absC w)).take (i * 3) ++ nodeL x.t B m d A' n' c' := by
        rw [← g1, Nat.add_mul, Nat.one_mul, List.take_add, List.map_take, List.map_drop]
      rw [e]
      exact e2.app g2.one
  obtain ⟨F, e1, e2⟩ := key len (Nat.le_refl _)
  rw [List.take_of_length_le (by simp; omega)] at e2
  exact ⟨v, A, len, cap, F, _, rfl, h2, h3, e1.symm, h4, e2⟩

theorem Shp.node {t ti tb tk te : TypeId} (hT : NodeT P t ti tb tk te) : ∀ (f : Nat) (cs : List Value), Shp enc P w held f t cs →
    ∃ (x : Fo.El) (B : Option Addr) (m d : Nat) (A : Option Addr) (n c : Nat) (ks : List Value), cs.map (absC w) = nodeL x.t B m d A n c ∧ NdR w.heap.size (m0 w).get x B m d A n c ks := by
  intro f
  induction f using Nat.strongRecOn with
  | ind f ih =>
    intro cs h
    obtain ⟨fs, hs, h0, h1, h2⟩ := hT.str
    obtain ⟨k, rfl, hl, hfl⟩ := h.struct hs
    simp only [Option.map_eq_some_iff] at h0 h1 h2
    obtain ⟨f0, e0, e0'⟩ := h0
    obtain ⟨f1, e1, e1'⟩ := h1
    obtain ⟨f2, e2, e2'⟩ := h2
    injection e0' with a0 b0
    injection e1' with a1 b1
    injection e2' with a2 b2
    have g0 := hfl 0 f0 e0
    have g1 := hfl 1 f1 e1
    have g2 := hfl 2 f2 e2
    rw [hT.ct] at hl
    rw [a0, b0, hT.ci, take_one (by omega)] at g0
    rw [a1, b1, hT.cb, take_one (by omega)] at g1
    rw [a2, b2, hT.ck, take_one (by omega)] at g2
    obtain ⟨z, z1, z2⟩ := g0.int hT.int
    obtain ⟨vb, B, m, d, lb, q0, q1, q2, q3⟩ := g1.bytes hT.bytes hT.byte hT.ce
    cases k with
    | zero =>
      obtain ⟨y, hy⟩ := g2
      rcases DataW.trod_slice hT.kids hy with ⟨_, h⟩ | ⟨a, len, cap, elems, rest, n, h, _⟩
      · simp [DataW.trod] at hy
      · simp [DataW.trod] at hy
    | succ k =>
      obtain ⟨vk, A, n, c, F, ks, p0, p1, p2, p3, p4, p5⟩ := g2.nodes hT (ih k (by omega)) hT.kids
      injection z1 with z1
      injection q0 with q0
      injection p0 with p0
      refine ⟨⟨z, lb, F⟩, B, m, d, A, n, c, ks, ?_, ⟨wf_i64 z2, q3, q2, p4, p2, p3, p5⟩⟩
      have hcs : cs = [cs[0], cs[1], cs[2]] := list_three hl (take_one (by omega)) (take_one (by omega)) (take_one (by omega))
      rw [hcs, z1, q0, p0]
      simp only [List.map_cons, List.map_nil, q1, p1]
      simp [absC, goodV]

theorem open_node {t ti tb tk te : TypeId} (hT : NodeT P t ti tb tk te) {r : Reach} {b0 : Nat} {v : Value} {d : DataW H} {ps : List MemPlace} (hval : Value.okWide P w r b0 t v) (hd : DataW.Trod enc P w 0 (fun _ => true) held t v d ps) :
    ∃ (x : Fo.El) (B : Option Addr) (m d : Nat) (A : Option Addr) (n c : Nat) (ks : List Value), absV w v = nodeV x.t B m d A n c ∧ NdR w.heap.size (m0 w).get x B m d A n c ks := by
  obtain ⟨fs, hs, _⟩ := hT.str
  simp only [Value.okWide, hs] at hval
  obtain ⟨cs, rfl, hcs, _⟩ := hval
  obtain ⟨fuel, hf⟩ := hd
  obtain ⟨x, B, m, d, A, n, c, ks, h1, h2⟩ := Shp.node hT _ _ ⟨_, hf⟩
  refine ⟨x, B, m, d, A, n, c, ks, ?_, h2⟩
  simp only [Value.cells] at h1
  simp only [absV]
  congr 1
  apply Array.ext'
  simpa using h1

end
end Go.Ga

/- The law ScalarNumbers. -/
namespace Go.Ga
open Go Go.Proofs
set_option linter.unusedSimpArgs false
set_option linter.unusedVariables false
set_option maxRecDepth 100000
attribute [local irreducible] appendK

def fieldsOf : Option TypeDesc → Array Field
  | some (.struct fs) => fs
  | _ => #[]
theorem nodeT : NodeT Tryd.prog 26 3 23 24 5 :=
  ⟨⟨fieldsOf (Tryd.prog.underlying 26), by kernel_rfl, by kernel_rfl, by kernel_rfl, by kernel_rfl⟩, by kernel_rfl, by kernel_rfl, by kernel_rfl, by kernel_rfl, by kernel_rfl, by kernel_rfl, by kernel_rfl, by kernel_rfl, by kernel_rfl⟩

section
variable {nx : Nat} {gt : Nat → Option Blk}


end
end Go.Ga

namespace Go.Ga
open Go Go.Proofs
set_option maxRecDepth 100000

def c_scalar_Bits : RFn :=
  ⟨46,
  (.seq
  (.ops [] [
  ⟨(some 4), (.op (.new [(.int .i64 0), (.slice none 0 0), (.slice none 0 0)])), none⟩,
  ⟨(some 5), (.op (.mv (.k (.int .i64 0)))), none⟩])
  (.seq
  (.ops [] [
  ⟨(some 7), (.op (.mv (.t 0))), none⟩,
  ⟨(some 8), (.op (.lenSl (.t 7))), none⟩,
  ⟨(some 9), (.op (.bin .mul (.k (.int .i64 8)) (.t 8))), none⟩,
  ⟨(some 10), (.op (.mv (.t 1))), none⟩,
  ⟨(some 11), (.op (.bin .sub (.t 9) (.t 10))), none⟩,
  ⟨(some 6), (.op (.mv (.t 11))), none⟩])
  (.seq
  (.seq
  (.ops [
  ⟨(some 12), (.op (.mv (.t 1))), none⟩,
  ⟨(some 13), (.op (.bin .lss (.t 12) (.k (.int .i64 0)))), none⟩,
  ⟨(some 14), (.op (.mv (.t 13))), none⟩,
  ⟨(some 15), (.op (.mv (.t 6))), (some (14, false))⟩,
  ⟨(some 16), (.op (.bin .lss (.t 15) (.k (.int .i64 0)))), (some (14, false))⟩,
  ⟨(some 17), (.op (.pick (.t 14) (.k (.bool true)) (.t 16))), none⟩,
  ⟨(some 18), (.op (.mv (.t 17))), none⟩,
  ⟨(some 19), (.op (.mv (.t 6))), (some (18, false))⟩,
  ⟨(some 20), (.op (.bin .gtr (.t 19) (.k (.int .i64 7)))), (some (18, false))⟩,
  ⟨(some 21), (.op (.pick (.t 18) (.k (.bool true)) (.t 20))), none⟩,
  ⟨(some 22), (.op (.mv (.t 21))), none⟩,
  ⟨(some 23), (.op (.mv (.t 6))), (some (22, false))⟩,
  ⟨(some 24), (.op (.bin .gtr (.t 23) (.k (.int .i64 0)))), (some (22, false))⟩,
  ⟨(some 25), (.op (.mv (.t 24))), (some (22, false))⟩,
  ⟨(some 26), (.op (.mv (.t 0))), (some (25, true))⟩,
  ⟨(some 27), (.op (.mv (.t 0))), (some (25, true))⟩,
  ⟨(some 28), (.op (.lenSl (.t 27))), (some (25, true))⟩,
  ⟨(some 29), (.op (.bin .sub (.t 28) (.k (.int .i64 1)))), (some (25, true))⟩,
  ⟨(some 30), (.op (.ixAddr 1 (.t 26) (.t 29))), (some (25, true))⟩,
  ⟨(some 31), (.op (.load1 (.t 30))), (some (25, true))⟩,
  ⟨(some 32), (.op (.mv (.t 6))), (some (25, true))⟩,
  ⟨(some 33), (.op (.bin .shl (.k (.int .u8 1)) (.t 32))), (some (25, true))⟩,
  ⟨(some 34), (.op (.bin .sub (.t 33) (.k (.int .u8 1)))), (some (25, true))⟩] [
  ⟨(some 35), (.op (.bin .and (.t 31) (.t 34))), (some (25, true))⟩,
  ⟨(some 36), (.op (.bin .neq (.t 35) (.k (.int .u8 0)))), (some (25, true))⟩,
  ⟨(some 37), (.op (.pick (.t 25) (.t 36) (.k (.bool false)))), (some (22, false))⟩,
  ⟨(some 38), (.op (.pick (.t 22) (.k (.bool true)) (.t 37))), none⟩])
  (.cond (.t 38)
  (.seq
  (.ops [] [
  ⟨(some 39), (.op (.build [(.int .i64 0), (.slice none 0 0), (.slice none 0 0)] [])), none⟩,
  ⟨none, (.op (.store 3 (.t 4) (.t 39))), none⟩,
  ⟨(some 5), (.op (.mv (.k (.int .i64 1)))), none⟩])
  .ret)
  .skip))
  (.seq
  (.ops [] [
  ⟨(some 40), (.op (.mv (.t 6))), none⟩,
  ⟨(some 41), (.op (.toInt .u8 (.t 40))), none⟩,
  ⟨(some 42), (.op (.mkSl 1 [(.int .u8 0)] [(0, (1, (.t 41)))])), none⟩,
  ⟨(some 43), (.op (.mv (.t 0))), none⟩,
  ⟨(some 44), (.op (.append 1 1 (.t 42) (.t 43))), none⟩,
  ⟨(some 45), (.op (.build [(.int .i64 0), (.slice none 0 0), (.slice none 0 0)] [(0, (1, (.k (.int .i64 3)))), (1, (1, (.t 44)))])), none⟩,
  ⟨none, (.op (.store 3 (.t 4) (.t 45))), none⟩,
  ⟨(some 5), (.op (.mv (.k (.int .i64 0)))), none⟩])
  .ret)))),
  [(.cN 4 3), (.t 5)]⟩
theorem r_scalar_Bits : resolveFn Tryd.prog 20 = some c_scalar_Bits := by kernel_rfl

def c_lanyardref05_Bits : RFn :=
  ⟨51,
  (.seq
  (.ops [] [
  ⟨(some 4), (.op (.new [(.int .i64 0), (.slice none 0 0), (.slice none 0 0)])), none⟩,
  ⟨(some 5), (.op (.mv (.k (.int .i64 0)))), none⟩])
  (.seq
  (.seq
  (.ops [] [
  ⟨(some 7), (.op (.mv (.t 1))), none⟩,
  ⟨(some 8), (.op (.bin .lss (.t 7) (.k (.int .i64 0)))), none⟩,
  ⟨(some 9), (.op (.mv (.t 8))), none⟩,
  ⟨(some 10), (.op (.mv (.t 1))), (some (9, false))⟩,
  ⟨(some 11), (.op (.mv (.t 0))), (some (9, false))⟩,
  ⟨(some 12), (.op (.lenSl (.t 11))), (some (9, false))⟩,
  ⟨(some 13), (.op (.bin .mul (.k (.int .i64 8)) (.t 12))), (some (9, false))⟩,
  ⟨(some 14), (.op (.bin .gtr (.t 10) (.t 13))), (some (9, false))⟩,
  ⟨(some 15), (.op (.pick (.t 9) (.k (.bool true)) (.t 14))), none⟩,
  ⟨(some 16), (.op (.mv (.t 15))), none⟩,
  ⟨(some 17), (.op (.mv (.t 0))), (some (16, false))⟩,
  ⟨(some 18), (.op (.lenSl (.t 17))), (some (16, false))⟩,
  ⟨(some 19), (.op (.mv (.t 1))), (some (16, false))⟩,
  ⟨(some 20), (.op (.bin .add (.t 19) (.k (.int .i64 7)))), (some (16, false))⟩,
  ⟨(some 21), (.op (.bin .quo (.t 20) (.k (.int .i64 8)))), (some (16, false))⟩,
  ⟨(some 22), (.op (.bin .neq (.t 18) (.t 21))), (some (16, false))⟩,
  ⟨(some 23), (.op (.pick (.t 16) (.k (.bool true)) (.t 22))), none⟩])
  (.cond (.t 23)
  (.seq
  (.ops [] [
  ⟨(some 24), (.op (.build [(.int .i64 0), (.slice none 0 0), (.slice none 0 0)] [])), none⟩,
  ⟨none, (.op (.store 3 (.t 4) (.t 24))), none⟩,
  ⟨(some 5), (.op (.mv (.k (.int .i64 1)))), none⟩])
  .ret)
  .skip))
  (.seq
  (.ops [] [
  ⟨(some 25), (.op (.mv (.t 0))), none⟩,
  ⟨(some 26), (.op (.lenSl (.t 25))), none⟩,
  ⟨(some 27), (.op (.bin .mul (.k (.int .i64 8)) (.t 26))), none⟩,
  ⟨(some 28), (.op (.mv (.t 1))), none⟩,
  ⟨(some 29), (.op (.bin .sub (.t 27) (.t 28))), none⟩,
  ⟨(some 6), (.op (.mv (.t 29))), none⟩])
  (.seq
  (.seq
  (.ops [
  ⟨(some 30), (.op (.mv (.t 6))), none⟩,
  ⟨(some 31), (.op (.bin .gtr (.t 30) (.k (.int .i64 0)))), none⟩,
  ⟨(some 32), (.op (.mv (.t 31))), none⟩,
  ⟨(some 33), (.op (.mv (.t 0))), (some (32, true))⟩,
  ⟨(some 34), (.op (.mv (.t 0))), (some (32, true))⟩,
  ⟨(some 35), (.op (.lenSl (.t 34))), (some (32, true))⟩,
  ⟨(some 36), (.op (.bin .sub (.t 35) (.k (.int .i64 1)))), (some (32, true))⟩,
  ⟨(some 37), (.op (.ixAddr 1 (.t 33) (.t 36))), (some (32, true))⟩,
  ⟨(some 38), (.op (.load1 (.t 37))), (some (32, true))⟩,
  ⟨(some 39), (.op (.mv (.t 6))), (some (32, true))⟩,
  ⟨(some 40), (.op (.bin .shl (.k (.int .u8 1)) (.t 39))), (some (32, true))⟩] [
  ⟨(some 41), (.op (.bin .rem (.t 38) (.t 40))), (some (32, true))⟩,
  ⟨(some 42), (.op (.bin .neq (.t 41) (.k (.int .u8 0)))), (some (32, true))⟩,
  ⟨(some 43), (.op (.pick (.t 32) (.t 42) (.k (.bool false)))), none⟩])
  (.cond (.t 43)
  (.seq
  (.ops [] [
  ⟨(some 44), (.op (.build [(.int .i64 0), (.slice none 0 0), (.slice none 0 0)] [])), none⟩,
  ⟨none, (.op (.store 3 (.t 4) (.t 44))), none⟩,
  ⟨(some 5), (.op (.mv (.k (.int .i64 1)))), none⟩])
  .ret)
  .skip))
  (.seq
  (.ops [] [
  ⟨(some 45), (.op (.mv (.t 6))), none⟩,
  ⟨(some 46), (.op (.toInt .u8 (.t 45))), none⟩,
  ⟨(some 47), (.op (.mkSl 1 [(.int .u8 0)] [(0, (1, (.t 46)))])), none⟩,
  ⟨(some 48), (.op (.mv (.t 0))), none⟩,
  ⟨(some 49), (.op (.append 1 1 (.t 47) (.t 48))), none⟩,
  ⟨(some 50), (.op (.build [(.int .i64 0), (.slice none 0 0), (.slice none 0 0)] [(0, (1, (.k (.int .i64 3)))), (1, (1, (.t 49)))])), none⟩,
  ⟨none, (.op (.store 3 (.t 4) (.t 50))), none⟩,
  ⟨(some 5), (.op (.mv (.k (.int .i64 0)))), none⟩])
  .ret))))),
  [(.cN 4 3), (.t 5)]⟩
def c_scalar_Of : RFn :=
  ⟨37,
  (.seq
  (.ops [] [
  ⟨(some 1), (.op (.box (.t 0))), none⟩,
  ⟨(some 2), (.op (.mv (.k (.slice none 0 0)))), none⟩,
  ⟨(some 3), (.op (.mv (.k (.int .i64 0)))), none⟩,
  ⟨(some 4), (.op (.mv (.k (.int .i64 0)))), none⟩])
  (.seq
  (.seq
  (.ops [] [
  ⟨(some 8), (.op (.fieldAddr 1 (.t 1))), none⟩,
  ⟨(some 9), (.op (.load1 (.t 8))), none⟩,
  ⟨(some 10), (.op (.lenSl (.t 9))), none⟩,
  ⟨(some 11), (.op (.bin .eql (.t 10) (.k (.int .i64 0)))), none⟩])
  (.cond (.t 11)
  (.seq
  (.ops [] [
  ⟨(some 2), (.op (.mv (.k (.slice none 0 0)))), none⟩,
  ⟨(some 3), (.op (.mv (.k (.int .i64 0)))), none⟩,
  ⟨(some 4), (.op (.mv (.k (.int .i64 2)))), none⟩])
  .ret)
  .skip))
  (.seq
  (.ops [] [
  ⟨(some 12), (.op (.fieldAddr 1 (.t 1))), none⟩,
  ⟨(some 13), (.op (.load1 (.t 12))), none⟩,
  ⟨(some 14), (.op (.sl 1 (.t 13) (some (.k (.int .i64 1))) none none)), none⟩,
  ⟨(some 15), (.call (.k (.func (.func 45) #[] #[])) [(.t 14)]), none⟩,
  ⟨(some 5), (.op (.new [(.slice none 0 0)])), none⟩,
  ⟨none, (.op (.store 1 (.t 5) (.t 15))), none⟩])
  (.seq
  (.ops [
  ⟨(some 16), (.op (.load1 (.t 5))), none⟩,
  ⟨(some 17), (.op (.lenSl (.t 16))), none⟩,
  ⟨(some 18), (.op (.bin .mul (.k (.int .i64 8)) (.t 17))), none⟩,
  ⟨(some 19), (.op (.fieldAddr 1 (.t 1))), none⟩,
  ⟨(some 20), (.op (.load1 (.t 19))), none⟩,
  ⟨(some 21), (.op (.ixAddr 1 (.t 20) (.k (.int .i64 0)))), none⟩,
  ⟨(some 22), (.op (.load1 (.t 21))), none⟩,
  ⟨(some 23), (.op (.toInt .i64 (.t 22))), none⟩,
  ⟨(some 24), (.op (.bin .sub (.t 18) (.t 23))), none⟩,
  ⟨(some 6), (.op (.new [(.int .i64 0)])), none⟩] [
  ⟨none, (.op (.store 1 (.t 6) (.t 24))), none⟩])
  (.seq
  (.ops [] [
  ⟨(some 26), (.op (.load1 (.t 5))), none⟩,
  ⟨(some 27), (.op (.loadN 3 (.t 1))), none⟩,
  ⟨(some 28), (.op (.func 53 [(.t 5), (.t 6)])), none⟩,
  ⟨(some 29), (.call (.k (.func (.func 51) #[] #[])) [(.t 26), (.k (.bool true)), (.t 27), (.t 28)]), none⟩,
  ⟨(some 25), (.op (.mv (.t 29))), none⟩,
  ⟨(some 30), (.op (.extract (.t 25) 0)), none⟩,
  ⟨(some 31), (.op (.extract (.t 25) 1)), none⟩,
  ⟨none, (.op (.store 1 (.t 5) (.t 30))), none⟩,
  ⟨(some 7), (.op (.mv (.t 31))), none⟩])
  (.seq
  (.seq
  (.ops [] [
  ⟨(some 32), (.op (.mv (.t 7))), none⟩,
  ⟨(some 33), (.op (.bin .neq (.t 32) (.k (.int .i64 0)))), none⟩])
  (.cond (.t 33)
  (.seq
  (.ops [] [
  ⟨(some 34), (.op (.mv (.t 7))), none⟩,
  ⟨(some 2), (.op (.mv (.k (.slice none 0 0)))), none⟩,
  ⟨(some 3), (.op (.mv (.k (.int .i64 0)))), none⟩,
  ⟨(some 4), (.op (.mv (.t 34))), none⟩])
  .ret)
  .skip))
  (.seq
  (.ops [
  ⟨(some 35), (.op (.load1 (.t 5))), none⟩,
  ⟨(some 36), (.op (.load1 (.t 6))), none⟩,
  ⟨(some 2), (.op (.mv (.t 35))), none⟩] [
  ⟨(some 3), (.op (.mv (.t 36))), none⟩,
  ⟨(some 4), (.op (.mv (.k (.int .i64 0)))), none⟩])
  .ret))))))),
  [(.t 2), (.t 3), (.t 4)]⟩
theorem r_scalar_Of : resolveFn Tryd.prog 22 = some c_scalar_Of := by kernel_rfl

def c_lanyardref05_Of : RFn :=
  ⟨50,
  (.seq
  (.ops [] [
  ⟨(some 1), (.op (.box (.t 0))), none⟩,
  ⟨(some 2), (.op (.mv (.k (.slice none 0 0)))), none⟩,
  ⟨(some 3), (.op (.mv (.k (.int .i64 0)))), none⟩,
  ⟨(some 4), (.op (.mv (.k (.int .i64 0)))), none⟩])
  (.seq
  (.seq
  (.ops [] [
  ⟨(some 9), (.op (.fieldAddr 1 (.t 1))), none⟩,
  ⟨(some 10), (.op (.load1 (.t 9))), none⟩,
  ⟨(some 11), (.op (.lenSl (.t 10))), none⟩,
  ⟨(some 12), (.op (.bin .eql (.t 11) (.k (.int .i64 0)))), none⟩,
  ⟨(some 13), (.op (.mv (.t 12))), none⟩,
  ⟨(some 14), (.op (.fieldAddr 1 (.t 1))), (some (13, false))⟩,
  ⟨(some 15), (.op (.load1 (.t 14))), (some (13, false))⟩,
  ⟨(some 16), (.op (.ixAddr 1 (.t 15) (.k (.int .i64 0)))), (some (13, false))⟩,
  ⟨(some 17), (.op (.load1 (.t 16))), (some (13, false))⟩,
  ⟨(some 18), (.op (.bin .gtr (.t 17) (.k (.int .u8 7)))), (some (13, false))⟩,
  ⟨(some 19), (.op (.pick (.t 13) (.k (.bool true)) (.t 18))), none⟩])
  (.cond (.t 19)
  (.seq
  (.ops [] [
  ⟨(some 2), (.op (.mv (.k (.slice none 0 0)))), none⟩,
  ⟨(some 3), (.op (.mv (.k (.int .i64 0)))), none⟩,
  ⟨(some 4), (.op (.mv (.k (.int .i64 2)))), none⟩])
  .ret)
  .skip))
  (.seq
  (.ops [] [
  ⟨(some 20), (.op (.mkSl 0 [] [])), none⟩,
  ⟨(some 21), (.op (.fieldAddr 1 (.t 1))), none⟩,
  ⟨(some 22), (.op (.load1 (.t 21))), none⟩,
  ⟨(some 23), (.op (.sl 1 (.t 22) (some (.k (.int .i64 1))) none none)), none⟩,
  ⟨(some 24), (.op (.append 1 1 (.t 20) (.t 23))), none⟩,
  ⟨(some 5), (.op (.mv (.t 24))), none⟩])
  (.seq
  (.ops [] [
  ⟨(some 25), (.op (.mv (.t 5))), none⟩,
  ⟨(some 26), (.op (.lenSl (.t 25))), none⟩,
  ⟨(some 27), (.op (.bin .mul (.k (.int .i64 8)) (.t 26))), none⟩,
  ⟨(some 28), (.op (.fieldAddr 1 (.t 1))), none⟩,
  ⟨(some 29), (.op (.load1 (.t 28))), none⟩,
  ⟨(some 30), (.op (.ixAddr 1 (.t 29) (.k (.int .i64 0)))), none⟩,
  ⟨(some 31), (.op (.load1 (.t 30))), none⟩,
  ⟨(some 32), (.op (.toInt .i64 (.t 31))), none⟩,
  ⟨(some 33), (.op (.bin .sub (.t 27) (.t 32))), none⟩,
  ⟨(some 6), (.op (.mv (.t 33))), none⟩])
  (.seq
  (.ops [] [
  ⟨(some 35), (.op (.mv (.t 5))), none⟩,
  ⟨(some 36), (.op (.mv (.t 6))), none⟩,
  ⟨(some 37), (.call (.k (.func (.func 21) #[] #[])) [(.t 35), (.t 36)]), none⟩,
  ⟨(some 34), (.op (.mv (.t 37))), none⟩,
  ⟨(some 38), (.op (.extract (.t 34) 0)), none⟩,
  ⟨(some 39), (.op (.extract (.t 34) 1)), none⟩,
  ⟨(some 7), (.op (.new [(.int .i64 0), (.slice none 0 0), (.slice none 0 0)])), none⟩,
  ⟨none, (.op (.store 3 (.t 7) (.t 38))), none⟩,
  ⟨(some 8), (.op (.mv (.t 39))), none⟩])
  (.seq
  (.seq
  (.ops [] [
  ⟨(some 40), (.op (.mv (.t 8))), none⟩,
  ⟨(some 41), (.op (.bin .neq (.t 40) (.k (.int .i64 0)))), none⟩,
  ⟨(some 42), (.op (.mv (.t 41))), none⟩,
  ⟨(some 43), (.op (.loadN 3 (.t 7))), (some (42, false))⟩,
  ⟨(some 44), (.op (.loadN 3 (.t 1))), (some (42, false))⟩,
  ⟨(some 45), (.call (.k (.func (.func 11) #[] #[])) [(.t 43), (.t 44)]), (some (42, false))⟩,
  ⟨(some 46), (.op (.un .not (.t 45))), (some (42, false))⟩,
  ⟨(some 47), (.op (.pick (.t 42) (.k (.bool true)) (.t 46))), none⟩])
  (.cond (.t 47)
  (.seq
  (.ops [] [
  ⟨(some 2), (.op (.mv (.k (.slice none 0 0)))), none⟩,
  ⟨(some 3), (.op (.mv (.k (.int .i64 0)))), none⟩,
  ⟨(some 4), (.op (.mv (.k (.int .i64 2)))), none⟩])
  .ret)
  .skip))
  (.seq
  (.ops [] [
  ⟨(some 48), (.op (.mv (.t 5))), none⟩,
  ⟨(some 49), (.op (.mv (.t 6))), none⟩,
  ⟨(some 2), (.op (.mv (.t 48))), none⟩,
  ⟨(some 3), (.op (.mv (.t 49))), none⟩,
  ⟨(some 4), (.op (.mv (.k (.int .i64 0)))), none⟩])
  .ret))))))),
  [(.t 2), (.t 3), (.t 4)]⟩
def c_scalar_True : RFn :=
  ⟨22,
  (.seq
  (.ops [] [
  ⟨(some 1), (.op (.box (.t 0))), none⟩,
  ⟨(some 2), (.op (.mv (.k (.bool false)))), none⟩,
  ⟨(some 3), (.op (.mv (.k (.int .i64 0)))), none⟩])
  (.seq
  (.ops [] [
  ⟨(some 5), (.op (.fieldAddr 1 (.t 1))), none⟩,
  ⟨(some 6), (.op (.load1 (.t 5))), none⟩,
  ⟨(some 7), (.op (.lenSl (.t 6))), none⟩,
  ⟨(some 8), (.op (.bin .gtr (.t 7) (.k (.int .i64 0)))), none⟩,
  ⟨(some 9), (.op (.mv (.t 8))), none⟩,
  ⟨(some 10), (.op (.fieldAddr 1 (.t 1))), (some (9, true))⟩,
  ⟨(some 11), (.op (.load1 (.t 10))), (some (9, true))⟩,
  ⟨(some 12), (.op (.ixAddr 1 (.t 11) (.k (.int .i64 0)))), (some (9, true))⟩,
  ⟨(some 13), (.op (.load1 (.t 12))), (some (9, true))⟩,
  ⟨(some 14), (.op (.bin .neq (.t 13) (.k (.int .u8 0)))), (some (9, true))⟩,
  ⟨(some 15), (.op (.pick (.t 9) (.t 14) (.k (.bool false)))), none⟩,
  ⟨(some 4), (.op (.new [(.bool false)])), none⟩,
  ⟨none, (.op (.store 1 (.t 4) (.t 15))), none⟩])
  (.seq
  (.ops [] [
  ⟨(some 16), (.op (.load1 (.t 4))), none⟩,
  ⟨(some 17), (.op (.loadN 3 (.t 1))), none⟩,
  ⟨(some 18), (.op (.func 55 [(.t 4)])), none⟩,
  ⟨(some 19), (.call (.k (.func (.func 54) #[] #[])) [(.t 16), (.k (.bool true)), (.t 17), (.t 18)]), none⟩,
  ⟨(some 20), (.op (.extract (.t 19) 0)), none⟩,
  ⟨(some 21), (.op (.extract (.t 19) 1)), none⟩,
  ⟨(some 2), (.op (.mv (.t 20))), none⟩,
  ⟨(some 3), (.op (.mv (.t 21))), none⟩])
  .ret))),
  [(.t 2), (.t 3)]⟩
def c_lanyardref05_True : RFn :=
  ⟨10,
  (.seq
  (.ops [] [
  ⟨(some 1), (.op (.box (.t 0))), none⟩,
  ⟨(some 2), (.op (.mv (.k (.bool false)))), none⟩,
  ⟨(some 3), (.op (.mv (.k (.int .i64 0)))), none⟩])
  (.seq
  (.seq
  (.ops [
  ⟨(some 4), (.op (.loadN 3 (.t 1))), none⟩,
  ⟨(some 5), (.call (.k (.func (.func 27) #[] #[])) [(.k (.bool true))]), none⟩] [
  ⟨(some 6), (.call (.k (.func (.func 11) #[] #[])) [(.t 4), (.t 5)]), none⟩])
  (.cond (.t 6)
  (.seq
  (.ops [] [
  ⟨(some 2), (.op (.mv (.k (.bool true)))), none⟩,
  ⟨(some 3), (.op (.mv (.k (.int .i64 0)))), none⟩])
  .ret)
  .skip))
  (.seq
  (.seq
  (.ops [
  ⟨(some 7), (.op (.loadN 3 (.t 1))), none⟩,
  ⟨(some 8), (.call (.k (.func (.func 27) #[] #[])) [(.k (.bool false))]), none⟩] [
  ⟨(some 9), (.call (.k (.func (.func 11) #[] #[])) [(.t 7), (.t 8)]), none⟩])
  (.cond (.t 9)
  (.seq
  (.ops [] [
  ⟨(some 2), (.op (.mv (.k (.bool false)))), none⟩,
  ⟨(some 3), (.op (.mv (.k (.int .i64 0)))), none⟩])
  .ret)
  .skip))
  (.seq
  (.ops [] [
  ⟨(some 2), (.op (.mv (.k (.bool false)))), none⟩,
  ⟨(some 3), (.op (.mv (.k (.int .i64 2)))), none⟩])
  .ret)))),
  [(.t 2), (.t 3)]⟩
def c_scalar_Bool : RFn :=
  ⟨8,
  (.seq
  (.ops [] [
  ⟨(some 2), (.op (.new [(.int .i64 0), (.slice none 0 0), (.slice none 0 0)])), none⟩])
  (.seq
  (.seq
  (.ops [] [
  ⟨(some 3), (.op (.mv (.t 0))), none⟩])
  (.cond (.t 3)
  (.seq
  (.ops [] [
  ⟨(some 4), (.op (.mkSl 1 [(.int .u8 0)] [(0, (1, (.k (.int .u8 255))))])), none⟩,
  ⟨(some 5), (.op (.build [(.int .i64 0), (.slice none 0 0), (.slice none 0 0)] [(0, (1, (.k (.int .i64 1)))), (1, (1, (.t 4)))])), none⟩,
  ⟨none, (.op (.store 3 (.t 2) (.t 5))), none⟩])
  .ret)
  .skip))
  (.seq
  (.ops [] [
  ⟨(some 6), (.op (.mkSl 1 [(.int .u8 0)] [(0, (1, (.k (.int .u8 0))))])), none⟩,
  ⟨(some 7), (.op (.build [(.int .i64 0), (.slice none 0 0), (.slice none 0 0)] [(0, (1, (.k (.int .i64 1)))), (1, (1, (.t 6)))])), none⟩,
  ⟨none, (.op (.store 3 (.t 2) (.t 7))), none⟩])
  .ret))),
  [(.cN 2 3)]⟩
def c_lanyardref05_Bool : RFn :=
  ⟨8,
  (.seq
  (.ops [] [
  ⟨(some 2), (.op (.new [(.int .i64 0), (.slice none 0 0), (.slice none 0 0)])), none⟩])
  (.seq
  (.seq
  (.ops [] [
  ⟨(some 3), (.op (.mv (.t 0))), none⟩])
  (.cond (.t 3)
  (.seq
  (.ops [] [
  ⟨(some 4), (.op (.mkSl 1 [(.int .u8 0)] [(0, (1, (.k (.int .u8 255))))])), none⟩,
  ⟨(some 5), (.op (.build [(.int .i64 0), (.slice none 0 0), (.slice none 0 0)] [(0, (1, (.k (.int .i64 1)))), (1, (1, (.t 4)))])), none⟩,
  ⟨none, (.op (.store 3 (.t 2) (.t 5))), none⟩])
  .ret)
  .skip))
  (.seq
  (.ops [] [
  ⟨(some 6), (.op (.mkSl 1 [(.int .u8 0)] [(0, (1, (.k (.int .u8 0))))])), none⟩,
  ⟨(some 7), (.op (.build [(.int .i64 0), (.slice none 0 0), (.slice none 0 0)] [(0, (1, (.k (.int .i64 1)))), (1, (1, (.t 6)))])), none⟩,
  ⟨none, (.op (.store 3 (.t 2) (.t 7))), none⟩])
  .ret))),
  [(.cN 2 3)]⟩
def c_scalar_Of_1 : RFn :=
  ⟨9,
  (.seq
  (.ops [] [
  ⟨(some 2), (.op (.new [(.int .i64 0), (.slice none 0 0), (.slice none 0 0)])), none⟩,
  ⟨(some 3), (.op (.mv (.k (.int .i64 0)))), none⟩])
  (.seq
  (.ops [] [
  ⟨(some 4), (.op (.load1 (.t 0))), none⟩,
  ⟨(some 5), (.op (.load1 (.t 1))), none⟩,
  ⟨(some 6), (.call (.k (.func (.func 20) #[] #[])) [(.t 4), (.t 5)]), none⟩,
  ⟨(some 7), (.op (.extract (.t 6) 0)), none⟩,
  ⟨(some 8), (.op (.extract (.t 6) 1)), none⟩,
  ⟨none, (.op (.store 3 (.t 2) (.t 7))), none⟩,
  ⟨(some 3), (.op (.mv (.t 8))), none⟩])
  .ret)),
  [(.cN 2 3), (.t 3)]⟩
theorem r_scalar_Of_1 : resolveFn Tryd.prog 53 = some c_scalar_Of_1 := by kernel_rfl

def c_scalar_True_1 : RFn :=
  ⟨5,
  (.seq
  (.ops [] [
  ⟨(some 1), (.op (.new [(.int .i64 0), (.slice none 0 0), (.slice none 0 0)])), none⟩,
  ⟨(some 2), (.op (.mv (.k (.int .i64 0)))), none⟩])
  (.seq
  (.ops [] [
  ⟨(some 3), (.op (.load1 (.t 0))), none⟩,
  ⟨(some 4), (.call (.k (.func (.func 26) #[] #[])) [(.t 3)]), none⟩,
  ⟨none, (.op (.store 3 (.t 1) (.t 4))), none⟩,
  ⟨(some 2), (.op (.mv (.k (.int .i64 0)))), none⟩])
  .ret)),
  [(.cN 1 3), (.t 2)]⟩
def c_scalar_just_bool_ : RFn :=
  ⟨31,
  (.seq
  (.ops [] [
  ⟨(some 6), (.op (.box (.t 2))), none⟩,
  ⟨(some 8), (.op (.mv (.k (.bool false)))), none⟩,
  ⟨(some 9), (.op (.mv (.k (.int .i64 0)))), none⟩])
  (.seq
  (.ops [] [
  ⟨(some 10), (.op (.mv (.k (.bool false)))), none⟩])
  (.seq
  (.seq
  (.ops [] [
  ⟨(some 13), (.op (.mv (.t 1))), none⟩,
  ⟨(some 14), (.op (.un .not (.t 13))), none⟩])
  (.cond (.t 14)
  (.seq
  (.ops [] [
  ⟨(some 15), (.op (.mv (.t 10))), none⟩,
  ⟨(some 8), (.op (.mv (.t 15))), none⟩,
  ⟨(some 9), (.op (.mv (.k (.int .i64 2)))), none⟩])
  .ret)
  .skip))
  (.seq
  (.seq
  (.ops [] [
  ⟨(some 17), (.op (.mv (.t 3))), none⟩,
  ⟨(some 18), (.call (.t 17) []), none⟩,
  ⟨(some 16), (.op (.mv (.t 18))), none⟩,
  ⟨(some 19), (.op (.extract (.t 16) 0)), none⟩,
  ⟨(some 20), (.op (.extract (.t 16) 1)), none⟩,
  ⟨(some 11), (.op (.new [(.int .i64 0), (.slice none 0 0), (.slice none 0 0)])), none⟩,
  ⟨none, (.op (.store 3 (.t 11) (.t 19))), none⟩,
  ⟨(some 12), (.op (.mv (.t 20))), none⟩])
  (.seq
  (.ops [] [
  ⟨(some 21), (.op (.mv (.t 12))), none⟩,
  ⟨(some 22), (.op (.bin .neq (.t 21) (.k (.int .i64 0)))), none⟩,
  ⟨(some 23), (.op (.mv (.t 22))), none⟩,
  ⟨(some 24), (.op (.loadN 3 (.t 11))), (some (23, false))⟩,
  ⟨(some 25), (.op (.loadN 3 (.t 6))), (some (23, false))⟩,
  ⟨(some 26), (.call (.k (.func (.func 75) #[] #[])) [(.t 24), (.t 25)]), (some (23, false))⟩,
  ⟨(some 27), (.op (.un .not (.t 26))), (some (23, false))⟩,
  ⟨(some 28), (.op (.pick (.t 23) (.k (.bool true)) (.t 27))), none⟩])
  (.cond (.t 28)
  (.seq
  (.ops [] [
  ⟨(some 29), (.op (.mv (.t 10))), none⟩,
  ⟨(some 8), (.op (.mv (.t 29))), none⟩,
  ⟨(some 9), (.op (.mv (.k (.int .i64 2)))), none⟩])
  .ret)
  .skip)))
  (.seq
  (.ops [] [
  ⟨(some 30), (.op (.mv (.t 0))), none⟩,
  ⟨(some 8), (.op (.mv (.t 30))), none⟩,
  ⟨(some 9), (.op (.mv (.k (.int .i64 0)))), none⟩])
  .ret))))),
  [(.t 8), (.t 9)]⟩
def c_lanyardlaw05_ScalarBits : RFn :=
  ⟨119,
  (.seq
  (.ops [] [
  ⟨(some 5), (.op (.box (.t 2))), none⟩,
  ⟨(some 6), (.op (.mv (.k (.bool false)))), none⟩])
  (.seq
  (.ops [] [
  ⟨(some 25), (.call (.k (.func (.func 9) #[] #[])) []), none⟩,
  ⟨(some 7), (.op (.mv (.t 25))), none⟩])
  (.seq
  (.ops [] [
  ⟨(some 26), (.op (.loadN 3 (.t 5))), none⟩,
  ⟨(some 27), (.call (.k (.func (.func 10) #[] #[])) [(.t 26)]), none⟩,
  ⟨(some 8), (.op (.mv (.t 27))), none⟩])
  (.seq
  (.seq
  (.ops [] [
  ⟨(some 28), (.op (.mv (.t 8))), none⟩,
  ⟨(some 29), (.op (.un .not (.t 28))), none⟩,
  ⟨(some 30), (.op (.mv (.t 29))), none⟩,
  ⟨(some 31), (.op (.mv (.t 0))), (some (30, false))⟩,
  ⟨(some 32), (.op (.lenSl (.t 31))), (some (30, false))⟩,
  ⟨(some 33), (.op (.bin .gtr (.t 32) (.k (.int .i64 1000)))), (some (30, false))⟩,
  ⟨(some 34), (.op (.pick (.t 30) (.k (.bool true)) (.t 33))), none⟩])
  (.cond (.t 34)
  (.seq
  (.ops [] [
  ⟨(some 35), (.op (.mv (.t 7))), none⟩,
  ⟨(some 6), (.op (.mv (.t 35))), none⟩])
  .ret)
  .skip))
  (.seq
  (.ops [] [
  ⟨(some 37), (.op (.mv (.t 0))), none⟩,
  ⟨(some 38), (.op (.mv (.t 1))), none⟩,
  ⟨(some 39), (.call (.k (.func (.func 20) #[] #[])) [(.t 37), (.t 38)]), none⟩,
  ⟨(some 36), (.op (.mv (.t 39))), none⟩,
  ⟨(some 40), (.op (.extract (.t 36) 0)), none⟩,
  ⟨(some 41), (.op (.extract (.t 36) 1)), none⟩,
  ⟨(some 9), (.op (.new [(.int .i64 0), (.slice none 0 0), (.slice none 0 0)])), none⟩,
  ⟨none, (.op (.store 3 (.t 9) (.t 40))), none⟩,
  ⟨(some 10), (.op (.mv (.t 41))), none⟩])
  (.seq
  (.ops [] [
  ⟨(some 43), (.op (.mv (.t 0))), none⟩,
  ⟨(some 44), (.op (.mv (.t 1))), none⟩,
  ⟨(some 45), (.call (.k (.func (.func 21) #[] #[])) [(.t 43), (.t 44)]), none⟩,
  ⟨(some 42), (.op (.mv (.t 45))), none⟩,
  ⟨(some 46), (.op (.extract (.t 42) 0)), none⟩,
  ⟨(some 47), (.op (.extract (.t 42) 1)), none⟩,
  ⟨(some 11), (.op (.new [(.int .i64 0), (.slice none 0 0), (.slice none 0 0)])), none⟩,
  ⟨none, (.op (.store 3 (.t 11) (.t 46))), none⟩,
  ⟨(some 12), (.op (.mv (.t 47))), none⟩])
  (.seq
  (.ops [] [
  ⟨(some 48), (.op (.loadN 3 (.t 9))), none⟩,
  ⟨(some 49), (.op (.loadN 3 (.t 11))), none⟩,
  ⟨(some 50), (.call (.k (.func (.func 11) #[] #[])) [(.t 48), (.t 49)]), none⟩,
  ⟨(some 13), (.op (.mv (.t 50))), none⟩])
  (.seq
  (.ops [] [
  ⟨(some 52), (.op (.loadN 3 (.t 5))), none⟩,
  ⟨(some 53), (.call (.k (.func (.func 22) #[] #[])) [(.t 52)]), none⟩,
  ⟨(some 51), (.op (.mv (.t 53))), none⟩,
  ⟨(some 54), (.op (.extract (.t 51) 0)), none⟩,
  ⟨(some 55), (.op (.extract (.t 51) 1)), none⟩,
  ⟨(some 56), (.op (.extract (.t 51) 2)), none⟩,
  ⟨(some 14), (.op (.mv (.t 54))), none⟩,
  ⟨(some 15), (.op (.mv (.t 55))), none⟩,
  ⟨(some 16), (.op (.mv (.t 56))), none⟩])
  (.seq
  (.ops [] [
  ⟨(some 58), (.op (.loadN 3 (.t 5))), none⟩,
  ⟨(some 59), (.call (.k (.func (.func 23) #[] #[])) [(.t 58)]), none⟩,
  ⟨(some 57), (.op (.mv (.t 59))), none⟩,
  ⟨(some 60), (.op (.extract (.t 57) 0)), none⟩,
  ⟨(some 61), (.op (.extract (.t 57) 1)), none⟩,
  ⟨(some 62), (.op (.extract (.t 57) 2)), none⟩,
  ⟨(some 17), (.op (.mv (.t 60))), none⟩,
  ⟨(some 18), (.op (.mv (.t 61))), none⟩,
  ⟨(some 19), (.op (.mv (.t 62))), none⟩])
  (.seq
  (.ops [] [
  ⟨(some 64), (.op (.loadN 3 (.t 5))), none⟩,
  ⟨(some 65), (.call (.k (.func (.func 24) #[] #[])) [(.t 64)]), none⟩,
  ⟨(some 63), (.op (.mv (.t 65))), none⟩,
  ⟨(some 66), (.op (.extract (.t 63) 0)), none⟩,
  ⟨(some 67), (.op (.extract (.t 63) 1)), none⟩,
  ⟨(some 20), (.op (.mv (.t 66))), none⟩,
  ⟨(some 21), (.op (.mv (.t 67))), none⟩])
  (.seq
  (.ops [] [
  ⟨(some 69), (.op (.loadN 3 (.t 5))), none⟩,
  ⟨(some 70), (.call (.k (.func (.func 25) #[] #[])) [(.t 69)]), none⟩,
  ⟨(some 68), (.op (.mv (.t 70))), none⟩,
  ⟨(some 71), (.op (.extract (.t 68) 0)), none⟩,
  ⟨(some 72), (.op (.extract (.t 68) 1)), none⟩,
  ⟨(some 22), (.op (.mv (.t 71))), none⟩,
  ⟨(some 23), (.op (.mv (.t 72))), none⟩])
  (.seq
  (.ops [] [
  ⟨(some 73), (.op (.mv (.t 1))), none⟩,
  ⟨(some 74), (.op (.bin .gtr (.t 73) (.k (.int .i64 3)))), none⟩,
  ⟨(some 75), (.call (.k (.func (.func 26) #[] #[])) [(.t 74)]), none⟩,
  ⟨(some 76), (.op (.mv (.t 1))), none⟩,
  ⟨(some 77), (.op (.bin .gtr (.t 76) (.k (.int .i64 3)))), none⟩,
  ⟨(some 78), (.call (.k (.func (.func 27) #[] #[])) [(.t 77)]), none⟩,
  ⟨(some 79), (.call (.k (.func (.func 11) #[] #[])) [(.t 75), (.t 78)]), none⟩,
  ⟨(some 24), (.op (.mv (.t 79))), none⟩])
  (.seq
  (.ops [] [
  ⟨(some 80), (.op (.mv (.t 7))), none⟩,
  ⟨(some 81), (.op (.mv (.t 80))), none⟩,
  ⟨(some 82), (.op (.mv (.t 13))), (some (81, true))⟩,
  ⟨(some 83), (.op (.pick (.t 81) (.t 82) (.k (.bool false)))), none⟩,
  ⟨(some 84), (.op (.mv (.t 83))), none⟩,
  ⟨(some 85), (.op (.mv (.t 10))), (some (84, true))⟩,
  ⟨(some 86), (.op (.mv (.t 12))), (some (84, true))⟩,
  ⟨(some 87), (.op (.bin .eql (.t 85) (.t 86))), (some (84, true))⟩,
  ⟨(some 88), (.op (.pick (.t 84) (.t 87) (.k (.bool false)))), none⟩,
  ⟨(some 89), (.op (.mv (.t 88))), none⟩,
  ⟨(some 90), (.op (.mv (.t 14))), (some (89, true))⟩,
  ⟨(some 91), (.op (.b2s (.t 90))), (some (89, true))⟩,
  ⟨(some 92), (.op (.mv (.t 17))), (some (89, true))⟩,
  ⟨(some 93), (.op (.b2s (.t 92))), (some (89, true))⟩,
  ⟨(some 94), (.op (.bin .eql (.t 91) (.t 93))), (some (89, true))⟩,
  ⟨(some 95), (.op (.pick (.t 89) (.t 94) (.k (.bool false)))), none⟩,
  ⟨(some 96), (.op (.mv (.t 95))), none⟩,
  ⟨(some 97), (.op (.mv (.t 15))), (some (96, true))⟩,
  ⟨(some 98), (.op (.mv (.t 18))), (some (96, true))⟩,
  ⟨(some 99), (.op (.bin .eql (.t 97) (.t 98))), (some (96, true))⟩,
  ⟨(some 100), (.op (.pick (.t 96) (.t 99) (.k (.bool false)))), none⟩,
  ⟨(some 101), (.op (.mv (.t 100))), none⟩,
  ⟨(some 102), (.op (.mv (.t 16))), (some (101, true))⟩,
  ⟨(some 103), (.op (.mv (.t 19))), (some (101, true))⟩,
  ⟨(some 104), (.op (.bin .eql (.t 102) (.t 103))), (some (101, true))⟩,
  ⟨(some 105), (.op (.pick (.t 101) (.t 104) (.k (.bool false)))), none⟩,
  ⟨(some 106), (.op (.mv (.t 105))), none⟩,
  ⟨(some 107), (.op (.mv (.t 20))), (some (106, true))⟩,
  ⟨(some 108), (.op (.mv (.t 22))), (some (106, true))⟩,
  ⟨(some 109), (.op (.eqB false (.t 107) (.t 108))), (some (106, true))⟩,
  ⟨(some 110), (.op (.pick (.t 106) (.t 109) (.k (.bool false)))), none⟩,
  ⟨(some 111), (.op (.mv (.t 110))), none⟩,
  ⟨(some 112), (.op (.mv (.t 21))), (some (111, true))⟩,
  ⟨(some 113), (.op (.mv (.t 23))), (some (111, true))⟩,
  ⟨(some 114), (.op (.bin .eql (.t 112) (.t 113))), (some (111, true))⟩,
  ⟨(some 115), (.op (.pick (.t 111) (.t 114) (.k (.bool false)))), none⟩,
  ⟨(some 116), (.op (.mv (.t 115))), none⟩,
  ⟨(some 117), (.op (.mv (.t 24))), (some (116, true))⟩,
  ⟨(some 118), (.op (.pick (.t 116) (.t 117) (.k (.bool false)))), none⟩,
  ⟨(some 6), (.op (.mv (.t 118))), none⟩])
  .ret))))))))))))),
  [(.t 6)]⟩
def c_lanyardref05_Oid : RFn :=
  ⟨66,
  (.seq
  (.ops [] [
  ⟨(some 2), (.op (.new [(.int .i64 0), (.slice none 0 0), (.slice none 0 0)])), none⟩,
  ⟨(some 3), (.op (.mv (.k (.int .i64 0)))), none⟩])
  (.seq
  (.seq
  (.ops [] [
  ⟨(some 6), (.op (.mv (.t 0))), none⟩,
  ⟨(some 7), (.op (.lenSl (.t 6))), none⟩,
  ⟨(some 8), (.op (.bin .lss (.t 7) (.k (.int .i64 2)))), none⟩,
  ⟨(some 9), (.op (.mv (.t 8))), none⟩,
  ⟨(some 10), (.op (.mv (.t 0))), (some (9, false))⟩,
  ⟨(some 11), (.op (.lenSl (.t 10))), (some (9, false))⟩,
  ⟨(some 12), (.op (.bin .gtr (.t 11) (.k (.int .i64 20)))), (some (9, false))⟩,
  ⟨(some 13), (.op (.pick (.t 9) (.k (.bool true)) (.t 12))), none⟩,
  ⟨(some 14), (.op (.mv (.t 13))), none⟩,
  ⟨(some 15), (.op (.mv (.t 0))), (some (14, false))⟩,
  ⟨(some 16), (.op (.ixAddr 1 (.t 15) (.k (.int .i64 0)))), (some (14, false))⟩,
  ⟨(some 17), (.op (.load1 (.t 16))), (some (14, false))⟩,
  ⟨(some 18), (.op (.bin .gtr (.t 17) (.k (.int .u32 2)))), (some (14, false))⟩,
  ⟨(some 19), (.op (.pick (.t 14) (.k (.bool true)) (.t 18))), none⟩,
  ⟨(some 20), (.op (.mv (.t 19))), none⟩,
  ⟨(some 21), (.op (.mv (.t 0))), (some (20, false))⟩,
  ⟨(some 22), (.op (.ixAddr 1 (.t 21) (.k (.int .i64 1)))), (some (20, false))⟩,
  ⟨(some 23), (.op (.load1 (.t 22))), (some (20, false))⟩,
  ⟨(some 24), (.op (.bin .gtr (.t 23) (.k (.int .u32 4294967200)))), (some (20, false))⟩,
  ⟨(some 25), (.op (.pick (.t 20) (.k (.bool true)) (.t 24))), none⟩,
  ⟨(some 26), (.op (.mv (.t 25))), none⟩,
  ⟨(some 27), (.op (.mv (.t 0))), (some (26, false))⟩,
  ⟨(some 28), (.op (.ixAddr 1 (.t 27) (.k (.int .i64 1)))), (some (26, false))⟩,
  ⟨(some 29), (.op (.load1 (.t 28))), (some (26, false))⟩,
  ⟨(some 30), (.op (.bin .gtr (.t 29) (.k (.int .u32 39)))), (some (26, false))⟩,
  ⟨(some 31), (.op (.mv (.t 30))), (some (26, false))⟩,
  ⟨(some 32), (.op (.mv (.t 0))), (some (31, true))⟩,
  ⟨(some 33), (.op (.ixAddr 1 (.t 32) (.k (.int .i64 0)))), (some (31, true))⟩,
  ⟨(some 34), (.op (.load1 (.t 33))), (some (31, true))⟩,
  ⟨(some 35), (.op (.bin .neq (.t 34) (.k (.int .u32 2)))), (some (31, true))⟩,
  ⟨(some 36), (.op (.pick (.t 31) (.t 35) (.k (.bool false)))), (some (26, false))⟩,
  ⟨(some 37), (.op (.pick (.t 26) (.k (.bool true)) (.t 36))), none⟩])
  (.cond (.t 37)
  (.seq
  (.ops [] [
  ⟨(some 38), (.op (.build [(.int .i64 0), (.slice none 0 0), (.slice none 0 0)] [])), none⟩,
  ⟨none, (.op (.store 3 (.t 2) (.t 38))), none⟩,
  ⟨(some 3), (.op (.mv (.k (.int .i64 1)))), none⟩])
  .ret)
  .skip))
  (.seq
  (.ops [
  ⟨(some 39), (.op (.mv (.t 0))), none⟩,
  ⟨(some 40), (.op (.ixAddr 1 (.t 39) (.k (.int .i64 0)))), none⟩,
  ⟨(some 41), (.op (.load1 (.t 40))), none⟩,
  ⟨(some 42), (.op (.toInt .u64 (.t 41))), none⟩,
  ⟨(some 43), (.op (.bin .mul (.k (.int .u64 40)) (.t 42))), none⟩,
  ⟨(some 44), (.op (.mv (.t 0))), none⟩,
  ⟨(some 45), (.op (.ixAddr 1 (.t 44) (.k (.int .i64 1)))), none⟩,
  ⟨(some 46), (.op (.load1 (.t 45))), none⟩,
  ⟨(some 47), (.op (.toInt .u64 (.t 46))), none⟩] [
  ⟨(some 48), (.op (.bin .add (.t 43) (.t 47))), none⟩,
  ⟨(some 49), (.call (.k (.func (.func 57) #[] #[])) [(.t 48)]), none⟩,
  ⟨(some 4), (.op (.mv (.t 49))), none⟩])
  (.seq
  (.seq
  (.ops [] [
  ⟨(some 5), (.op (.mv (.k (.int .i64 2)))), none⟩])
  (.block 0
  (.loop
  (.seq
  (.seq
  (.ops [] [
  ⟨(some 50), (.op (.mv (.t 5))), none⟩,
  ⟨(some 51), (.op (.mv (.t 0))), none⟩,
  ⟨(some 52), (.op (.lenSl (.t 51))), none⟩,
  ⟨(some 53), (.op (.bin .lss (.t 50) (.t 52))), none⟩])
  (.cond (.t 53)
  .skip
  (.exit 0)))
  (.seq
  (.block 1
  (.ops [] [
  ⟨(some 56), (.op (.mv (.t 4))), none⟩,
  ⟨(some 57), (.op (.mv (.t 0))), none⟩,
  ⟨(some 58), (.op (.mv (.t 5))), none⟩,
  ⟨(some 59), (.op (.ixAddr 1 (.t 57) (.t 58))), none⟩,
  ⟨(some 60), (.op (.load1 (.t 59))), none⟩,
  ⟨(some 61), (.op (.toInt .u64 (.t 60))), none⟩,
  ⟨(some 62), (.call (.k (.func (.func 57) #[] #[])) [(.t 61)]), none⟩,
  ⟨(some 63), (.op (.append 1 1 (.t 56) (.t 62))), none⟩,
  ⟨(some 4), (.op (.mv (.t 63))), none⟩]))
  (.ops [] [
  ⟨(some 54), (.op (.mv (.t 5))), none⟩,
  ⟨(some 55), (.op (.bin .add (.t 54) (.k (.int .i64 1)))), none⟩,
  ⟨(some 5), (.op (.mv (.t 55))), none⟩]))))))
  (.seq
  (.ops [] [
  ⟨(some 64), (.op (.mv (.t 4))), none⟩,
  ⟨(some 65), (.op (.build [(.int .i64 0), (.slice none 0 0), (.slice none 0 0)] [(0, (1, (.k (.int .i64 6)))), (1, (1, (.t 64)))])), none⟩,
  ⟨none, (.op (.store 3 (.t 2) (.t 65))), none⟩,
  ⟨(some 3), (.op (.mv (.k (.int .i64 0)))), none⟩])
  .ret))))),
  [(.cN 2 3), (.t 3)]⟩
def c_lanyardref05_seven : RFn :=
  ⟨20,
  (.seq
  (.ops [] [
  ⟨(some 2), (.op (.mv (.k (.slice none 0 0)))), none⟩])
  (.seq
  (.ops [] [
  ⟨(some 4), (.op (.mv (.t 0))), none⟩,
  ⟨(some 5), (.op (.bin .rem (.t 4) (.k (.int .u64 128)))), none⟩,
  ⟨(some 6), (.op (.toInt .u8 (.t 5))), none⟩,
  ⟨(some 7), (.op (.mkSl 1 [(.int .u8 0)] [(0, (1, (.t 6)))])), none⟩,
  ⟨(some 3), (.op (.mv (.t 7))), none⟩])
  (.seq
  (.block 0
  (.loop
  (.seq
  (.seq
  (.ops [] [
  ⟨(some 8), (.op (.mv (.t 0))), none⟩,
  ⟨(some 9), (.op (.bin .geq (.t 8) (.k (.int .u64 128)))), none⟩])
  (.cond (.t 9)
  .skip
  (.exit 0)))
  (.block 1
  (.seq
  (.ops [] [
  ⟨(some 10), (.op (.mv (.t 0))), none⟩,
  ⟨(some 11), (.op (.bin .quo (.t 10) (.k (.int .u64 128)))), none⟩,
  ⟨(some 0), (.op (.mv (.t 11))), none⟩])
  (.ops [] [
  ⟨(some 12), (.op (.mv (.t 0))), none⟩,
  ⟨(some 13), (.op (.bin .rem (.t 12) (.k (.int .u64 128)))), none⟩,
  ⟨(some 14), (.op (.bin .add (.t 13) (.k (.int .u64 128)))), none⟩,
  ⟨(some 15), (.op (.toInt .u8 (.t 14))), none⟩,
  ⟨(some 16), (.op (.mkSl 1 [(.int .u8 0)] [(0, (1, (.t 15)))])), none⟩,
  ⟨(some 17), (.op (.mv (.t 3))), none⟩,
  ⟨(some 18), (.op (.append 1 1 (.t 16) (.t 17))), none⟩,
  ⟨(some 3), (.op (.mv (.t 18))), none⟩]))))))
  (.seq
  (.ops [] [
  ⟨(some 19), (.op (.mv (.t 3))), none⟩,
  ⟨(some 2), (.op (.mv (.t 19))), none⟩])
  .ret)))),
  [(.t 2)]⟩
def c_scalar_Arcs : RFn :=
  ⟨56,
  (.seq
  (.ops [] [
  ⟨(some 1), (.op (.box (.t 0))), none⟩,
  ⟨(some 2), (.op (.mv (.k (.slice none 0 0)))), none⟩,
  ⟨(some 3), (.op (.mv (.k (.int .i64 0)))), none⟩])
  (.seq
  (.ops [] [
  ⟨(some 11), (.op (.fieldAddr 1 (.t 1))), none⟩,
  ⟨(some 12), (.op (.load1 (.t 11))), none⟩,
  ⟨(some 13), (.call (.k (.func (.func 58) #[] #[])) [(.t 12)]), none⟩,
  ⟨(some 10), (.op (.mv (.t 13))), none⟩,
  ⟨(some 14), (.op (.extract (.t 10) 0)), none⟩,
  ⟨(some 15), (.op (.extract (.t 10) 1)), none⟩,
  ⟨(some 4), (.op (.mv (.t 14))), none⟩,
  ⟨(some 5), (.op (.mv (.t 15))), none⟩])
  (.seq
  (.ops [] [
  ⟨(some 6), (.op (.new [(.slice none 0 0)])), none⟩])
  (.seq
  (.seq
  (.ops [] [
  ⟨(some 16), (.op (.mv (.t 4))), none⟩,
  ⟨(some 17), (.op (.lenSl (.t 16))), none⟩,
  ⟨(some 18), (.op (.mv (.k (.int .i64 0)))), none⟩])
  (.block 0
  (.loop
  (.seq
  (.ops [] [
  ⟨(some 19), (.op (.bin .lss (.t 18) (.t 17))), none⟩])
  (.seq
  (.cond (.t 19)
  .skip
  (.exit 0))
  (.seq
  (.block 1
  (.seq
  (.ops [] [
  ⟨(some 20), (.op (.mv (.t 18))), none⟩,
  ⟨(some 21), (.op (.ixAddr 1 (.t 16) (.t 18))), none⟩,
  ⟨(some 22), (.op (.load1 (.t 21))), none⟩,
  ⟨(some 7), (.op (.mv (.t 20))), none⟩,
  ⟨(some 8), (.op (.mv (.t 22))), none⟩])
  (.seq
  (.seq
  (.ops [] [
  ⟨(some 23), (.op (.mv (.t 7))), none⟩,
  ⟨(some 24), (.op (.bin .eql (.t 23) (.k (.int .i64 0)))), none⟩])
  (.cond (.t 24)
  (.seq
  (.ops [] [
  ⟨(some 25), (.op (.mv (.t 8))), none⟩,
  ⟨(some 26), (.op (.bin .quo (.t 25) (.k (.int .u64 40)))), none⟩,
  ⟨(some 27), (.op (.mm false (.t 26) [(.k (.int .u64 2))])), none⟩,
  ⟨(some 9), (.op (.mv (.t 27))), none⟩])
  (.seq
  (.ops [] [
  ⟨(some 28), (.op (.load1 (.t 6))), none⟩,
  ⟨(some 29), (.op (.mv (.t 9))), none⟩,
  ⟨(some 30), (.op (.toInt .u32 (.t 29))), none⟩,
  ⟨(some 31), (.op (.mkSl 1 [(.int .u32 0)] [(0, (1, (.t 30)))])), none⟩,
  ⟨(some 32), (.op (.append 1 4 (.t 28) (.t 31))), none⟩,
  ⟨none, (.op (.store 1 (.t 6) (.t 32))), none⟩])
  (.ops [] [
  ⟨(some 33), (.op (.mv (.t 8))), none⟩,
  ⟨(some 34), (.op (.mv (.t 9))), none⟩,
  ⟨(some 35), (.op (.bin .mul (.t 34) (.k (.int .u64 40)))), none⟩,
  ⟨(some 36), (.op (.bin .sub (.t 33) (.t 35))), none⟩,
  ⟨(some 8), (.op (.mv (.t 36))), none⟩])))
  .skip))
  (.seq
  (.ops [] [
  ⟨(some 37), (.op (.mv (.t 5))), none⟩,
  ⟨(some 38), (.op (.mv (.t 37))), none⟩,
  ⟨(some 39), (.op (.mv (.t 8))), (some (38, true))⟩,
  ⟨(some 40), (.op (.bin .shr (.t 39) (.k (.int .u64 32)))), (some (38, true))⟩,
  ⟨(some 41), (.op (.bin .eql (.t 40) (.k (.int .u64 0)))), (some (38, true))⟩,
  ⟨(some 42), (.op (.pick (.t 38) (.t 41) (.k (.bool false)))), none⟩,
  ⟨(some 5), (.op (.mv (.t 42))), none⟩])
  (.ops [] [
  ⟨(some 43), (.op (.load1 (.t 6))), none⟩,
  ⟨(some 44), (.op (.mv (.t 8))), none⟩,
  ⟨(some 45), (.op (.toInt .u32 (.t 44))), none⟩,
  ⟨(some 46), (.op (.mkSl 1 [(.int .u32 0)] [(0, (1, (.t 45)))])), none⟩,
  ⟨(some 47), (.op (.append 1 4 (.t 43) (.t 46))), none⟩,
  ⟨none, (.op (.store 1 (.t 6) (.t 47))), none⟩])))))
  (.ops [] [
  ⟨(some 48), (.op (.bin .add (.t 18) (.k (.int .i64 1)))), none⟩,
  ⟨(some 18), (.op (.mv (.t 48))), none⟩])))))))
  (.seq
  (.ops [] [
  ⟨(some 49), (.op (.load1 (.t 6))), none⟩,
  ⟨(some 50), (.op (.mv (.t 5))), none⟩,
  ⟨(some 51), (.op (.loadN 3 (.t 1))), none⟩,
  ⟨(some 52), (.op (.func 60 [(.t 6)])), none⟩,
  ⟨(some 53), (.call (.k (.func (.func 59) #[] #[])) [(.t 49), (.t 50), (.t 51), (.t 52)]), none⟩,
  ⟨(some 54), (.op (.extract (.t 53) 0)), none⟩,
  ⟨(some 55), (.op (.extract (.t 53) 1)), none⟩,
  ⟨(some 2), (.op (.mv (.t 54))), none⟩,
  ⟨(some 3), (.op (.mv (.t 55))), none⟩])
  .ret))))),
  [(.t 2), (.t 3)]⟩
theorem r_scalar_Arcs : resolveFn Tryd.prog 30 = some c_scalar_Arcs := by kernel_rfl

def c_lanyardref05_Arcs : RFn :=
  ⟨75,
  (.seq
  (.ops [] [
  ⟨(some 1), (.op (.box (.t 0))), none⟩,
  ⟨(some 2), (.op (.mv (.k (.slice none 0 0)))), none⟩,
  ⟨(some 3), (.op (.mv (.k (.int .i64 0)))), none⟩])
  (.seq
  (.ops [] [
  ⟨(some 4), (.op (.mv (.k (.slice none 0 0)))), none⟩])
  (.seq
  (.ops [] [
  ⟨(some 5), (.op (.mv (.k (.int .u64 0)))), none⟩])
  (.seq
  (.seq
  (.ops [] [
  ⟨(some 6), (.op (.mv (.k (.int .i64 0)))), none⟩])
  (.block 0
  (.loop
  (.seq
  (.seq
  (.ops [] [
  ⟨(some 10), (.op (.mv (.t 6))), none⟩,
  ⟨(some 11), (.op (.fieldAddr 1 (.t 1))), none⟩,
  ⟨(some 12), (.op (.load1 (.t 11))), none⟩,
  ⟨(some 13), (.op (.lenSl (.t 12))), none⟩,
  ⟨(some 14), (.op (.bin .lss (.t 10) (.t 13))), none⟩])
  (.cond (.t 14)
  .skip
  (.exit 0)))
  (.seq
  (.block 1
  (.seq
  (.ops [] [
  ⟨(some 17), (.op (.mv (.t 5))), none⟩,
  ⟨(some 18), (.op (.bin .rem (.t 17) (.k (.int .u64 144115188075855872)))), none⟩,
  ⟨(some 19), (.op (.bin .mul (.t 18) (.k (.int .u64 128)))), none⟩,
  ⟨(some 20), (.op (.fieldAddr 1 (.t 1))), none⟩,
  ⟨(some 21), (.op (.load1 (.t 20))), none⟩,
  ⟨(some 22), (.op (.mv (.t 6))), none⟩,
  ⟨(some 23), (.op (.ixAddr 1 (.t 21) (.t 22))), none⟩,
  ⟨(some 24), (.op (.load1 (.t 23))), none⟩,
  ⟨(some 25), (.op (.bin .rem (.t 24) (.k (.int .u8 128)))), none⟩,
  ⟨(some 26), (.op (.toInt .u64 (.t 25))), none⟩,
  ⟨(some 27), (.op (.bin .add (.t 19) (.t 26))), none⟩,
  ⟨(some 5), (.op (.mv (.t 27))), none⟩])
  (.seq
  (.seq
  (.ops [] [
  ⟨(some 28), (.op (.fieldAddr 1 (.t 1))), none⟩,
  ⟨(some 29), (.op (.load1 (.t 28))), none⟩,
  ⟨(some 30), (.op (.mv (.t 6))), none⟩,
  ⟨(some 31), (.op (.ixAddr 1 (.t 29) (.t 30))), none⟩,
  ⟨(some 32), (.op (.load1 (.t 31))), none⟩,
  ⟨(some 33), (.op (.bin .geq (.t 32) (.k (.int .u8 128)))), none⟩])
  (.cond (.t 33)
  (.exit 1)
  .skip))
  (.seq
  (.seq
  (.ops [] [
  ⟨(some 34), (.op (.mv (.t 4))), none⟩,
  ⟨(some 35), (.op (.lenSl (.t 34))), none⟩,
  ⟨(some 36), (.op (.bin .eql (.t 35) (.k (.int .i64 0)))), none⟩])
  (.cond (.t 36)
  (.seq
  (.ops [] [
  ⟨(some 37), (.op (.mv (.t 5))), none⟩,
  ⟨(some 38), (.op (.bin .quo (.t 37) (.k (.int .u64 40)))), none⟩,
  ⟨(some 39), (.op (.mm false (.t 38) [(.k (.int .u64 2))])), none⟩,
  ⟨(some 7), (.op (.mv (.t 39))), none⟩])
  (.seq
  (.ops [] [
  ⟨(some 40), (.op (.mv (.t 4))), none⟩,
  ⟨(some 41), (.op (.mv (.t 7))), none⟩,
  ⟨(some 42), (.op (.toInt .u32 (.t 41))), none⟩,
  ⟨(some 43), (.op (.mkSl 1 [(.int .u32 0)] [(0, (1, (.t 42)))])), none⟩,
  ⟨(some 44), (.op (.append 1 4 (.t 40) (.t 43))), none⟩,
  ⟨(some 4), (.op (.mv (.t 44))), none⟩])
  (.ops [] [
  ⟨(some 45), (.op (.mv (.t 5))), none⟩,
  ⟨(some 46), (.op (.mv (.t 7))), none⟩,
  ⟨(some 47), (.op (.bin .mul (.k (.int .u64 40)) (.t 46))), none⟩,
  ⟨(some 48), (.op (.bin .sub (.t 45) (.t 47))), none⟩,
  ⟨(some 5), (.op (.mv (.t 48))), none⟩])))
  .skip))
  (.seq
  (.seq
  (.ops [] [
  ⟨(some 49), (.op (.mv (.t 5))), none⟩,
  ⟨(some 50), (.op (.bin .gtr (.t 49) (.k (.int .u64 4294967295)))), none⟩,
  ⟨(some 51), (.op (.mv (.t 50))), none⟩,
  ⟨(some 52), (.op (.mv (.t 4))), (some (51, false))⟩,
  ⟨(some 53), (.op (.lenSl (.t 52))), (some (51, false))⟩,
  ⟨(some 54), (.op (.bin .gtr (.t 53) (.k (.int .i64 20)))), (some (51, false))⟩,
  ⟨(some 55), (.op (.pick (.t 51) (.k (.bool true)) (.t 54))), none⟩])
  (.cond (.t 55)
  (.seq
  (.ops [] [
  ⟨(some 2), (.op (.mv (.k (.slice none 0 0)))), none⟩,
  ⟨(some 3), (.op (.mv (.k (.int .i64 2)))), none⟩])
  .ret)
  .skip))
  (.seq
  (.ops [] [
  ⟨(some 56), (.op (.mv (.t 4))), none⟩,
  ⟨(some 57), (.op (.mv (.t 5))), none⟩,
  ⟨(some 58), (.op (.toInt .u32 (.t 57))), none⟩,
  ⟨(some 59), (.op (.mkSl 1 [(.int .u32 0)] [(0, (1, (.t 58)))])), none⟩,
  ⟨(some 60), (.op (.append 1 4 (.t 56) (.t 59))), none⟩,
  ⟨(some 4), (.op (.mv (.t 60))), none⟩])
  (.ops [] [
  ⟨(some 5), (.op (.mv (.k (.int .u64 0)))), none⟩])))))))
  (.ops [] [
  ⟨(some 15), (.op (.mv (.t 6))), none⟩,
  ⟨(some 16), (.op (.bin .add (.t 15) (.k (.int .i64 1)))), none⟩,
  ⟨(some 6), (.op (.mv (.t 16))), none⟩]))))))
  (.seq
  (.ops [] [
  ⟨(some 62), (.op (.mv (.t 4))), none⟩,
  ⟨(some 63), (.call (.k (.func (.func 29) #[] #[])) [(.t 62)]), none⟩,
  ⟨(some 61), (.op (.mv (.t 63))), none⟩,
  ⟨(some 64), (.op (.extract (.t 61) 0)), none⟩,
  ⟨(some 65), (.op (.extract (.t 61) 1)), none⟩,
  ⟨(some 8), (.op (.new [(.int .i64 0), (.slice none 0 0), (.slice none 0 0)])), none⟩,
  ⟨none, (.op (.store 3 (.t 8) (.t 64))), none⟩,
  ⟨(some 9), (.op (.mv (.t 65))), none⟩])
  (.seq
  (.seq
  (.ops [] [
  ⟨(some 66), (.op (.mv (.t 9))), none⟩,
  ⟨(some 67), (.op (.bin .neq (.t 66) (.k (.int .i64 0)))), none⟩,
  ⟨(some 68), (.op (.mv (.t 67))), none⟩,
  ⟨(some 69), (.op (.loadN 3 (.t 8))), (some (68, false))⟩,
  ⟨(some 70), (.op (.loadN 3 (.t 1))), (some (68, false))⟩,
  ⟨(some 71), (.call (.k (.func (.func 11) #[] #[])) [(.t 69), (.t 70)]), (some (68, false))⟩,
  ⟨(some 72), (.op (.un .not (.t 71))), (some (68, false))⟩,
  ⟨(some 73), (.op (.pick (.t 68) (.k (.bool true)) (.t 72))), none⟩])
  (.cond (.t 73)
  (.seq
  (.ops [] [
  ⟨(some 2), (.op (.mv (.k (.slice none 0 0)))), none⟩,
  ⟨(some 3), (.op (.mv (.k (.int .i64 2)))), none⟩])
  .ret)
  .skip))
  (.seq
  (.ops [] [
  ⟨(some 74), (.op (.mv (.t 4))), none⟩,
  ⟨(some 2), (.op (.mv (.t 74))), none⟩,
  ⟨(some 3), (.op (.mv (.k (.int .i64 0)))), none⟩])
  .ret))))))),
  [(.t 2), (.t 3)]⟩
def c_lanyardlaw05_same : RFn :=
  ⟨26,
  (.seq
  (.ops [] [
  ⟨(some 4), (.op (.mv (.k (.bool false)))), none⟩])
  (.seq
  (.seq
  (.ops [] [
  ⟨(some 6), (.op (.mv (.t 0))), none⟩,
  ⟨(some 7), (.op (.lenSl (.t 6))), none⟩,
  ⟨(some 8), (.op (.mv (.t 1))), none⟩,
  ⟨(some 9), (.op (.lenSl (.t 8))), none⟩,
  ⟨(some 10), (.op (.bin .neq (.t 7) (.t 9))), none⟩])
  (.cond (.t 10)
  (.seq
  (.ops [] [
  ⟨(some 4), (.op (.mv (.k (.bool false)))), none⟩])
  .ret)
  .skip))
  (.seq
  (.seq
  (.ops [] [
  ⟨(some 5), (.op (.mv (.k (.int .i64 0)))), none⟩])
  (.block 0
  (.loop
  (.seq
  (.seq
  (.ops [] [
  ⟨(some 11), (.op (.mv (.t 5))), none⟩,
  ⟨(some 12), (.op (.mv (.t 0))), none⟩,
  ⟨(some 13), (.op (.lenSl (.t 12))), none⟩,
  ⟨(some 14), (.op (.bin .lss (.t 11) (.t 13))), none⟩])
  (.cond (.t 14)
  .skip
  (.exit 0)))
  (.seq
  (.block 1
  (.seq
  (.ops [
  ⟨(some 17), (.op (.mv (.t 0))), none⟩,
  ⟨(some 18), (.op (.mv (.t 5))), none⟩,
  ⟨(some 19), (.op (.ixAddr 1 (.t 17) (.t 18))), none⟩,
  ⟨(some 20), (.op (.load1 (.t 19))), none⟩,
  ⟨(some 21), (.op (.mv (.t 1))), none⟩,
  ⟨(some 22), (.op (.mv (.t 5))), none⟩,
  ⟨(some 23), (.op (.ixAddr 1 (.t 21) (.t 22))), none⟩,
  ⟨(some 24), (.op (.load1 (.t 23))), none⟩] [
  ⟨(some 25), (.op (.bin .neq (.t 20) (.t 24))), none⟩])
  (.cond (.t 25)
  (.seq
  (.ops [] [
  ⟨(some 4), (.op (.mv (.k (.bool false)))), none⟩])
  .ret)
  .skip)))
  (.ops [] [
  ⟨(some 15), (.op (.mv (.t 5))), none⟩,
  ⟨(some 16), (.op (.bin .add (.t 15) (.k (.int .i64 1)))), none⟩,
  ⟨(some 5), (.op (.mv (.t 16))), none⟩]))))))
  (.seq
  (.ops [] [
  ⟨(some 4), (.op (.mv (.k (.bool true)))), none⟩])
  .ret)))),
  [(.t 4)]⟩
def c_scalar_numbers : RFn :=
  ⟨39,
  (.seq
  (.ops [] [
  ⟨(some 2), (.op (.mv (.k (.slice none 0 0)))), none⟩,
  ⟨(some 3), (.op (.mv (.k (.bool false)))), none⟩])
  (.seq
  (.ops [] [
  ⟨(some 4), (.op (.mv (.k (.slice none 0 0)))), none⟩])
  (.seq
  (.ops [] [
  ⟨(some 5), (.op (.mv (.k (.int .u64 0)))), none⟩,
  ⟨(some 6), (.op (.mv (.k (.bool true)))), none⟩])
  (.seq
  (.seq
  (.ops [] [
  ⟨(some 9), (.op (.mv (.t 0))), none⟩,
  ⟨(some 10), (.op (.lenSl (.t 9))), none⟩,
  ⟨(some 11), (.op (.mv (.k (.int .i64 0)))), none⟩])
  (.block 0
  (.loop
  (.seq
  (.ops [] [
  ⟨(some 12), (.op (.bin .lss (.t 11) (.t 10))), none⟩])
  (.seq
  (.cond (.t 12)
  .skip
  (.exit 0))
  (.seq
  (.block 1
  (.seq
  (.ops [] [
  ⟨(some 13), (.op (.ixAddr 1 (.t 9) (.t 11))), none⟩,
  ⟨(some 14), (.op (.load1 (.t 13))), none⟩,
  ⟨(some 8), (.op (.mv (.t 14))), none⟩])
  (.seq
  (.ops [] [
  ⟨(some 15), (.op (.mv (.t 5))), none⟩,
  ⟨(some 16), (.op (.bin .shl (.t 15) (.k (.int .u64 7)))), none⟩,
  ⟨(some 17), (.op (.mv (.t 8))), none⟩,
  ⟨(some 18), (.op (.bin .and (.t 17) (.k (.int .u8 127)))), none⟩,
  ⟨(some 19), (.op (.toInt .u64 (.t 18))), none⟩,
  ⟨(some 20), (.op (.bin .or (.t 16) (.t 19))), none⟩,
  ⟨(some 5), (.op (.mv (.t 20))), none⟩])
  (.seq
  (.ops [] [
  ⟨(some 21), (.op (.mv (.t 8))), none⟩,
  ⟨(some 22), (.op (.bin .lss (.t 21) (.k (.int .u8 128)))), none⟩,
  ⟨(some 6), (.op (.mv (.t 22))), none⟩])
  (.seq
  (.seq
  (.ops [] [
  ⟨(some 23), (.op (.mv (.t 5))), none⟩,
  ⟨(some 24), (.op (.bin .shr (.t 23) (.k (.int .u64 40)))), none⟩,
  ⟨(some 25), (.op (.bin .neq (.t 24) (.k (.int .u64 0)))), none⟩])
  (.cond (.t 25)
  (.seq
  (.ops [] [
  ⟨(some 2), (.op (.mv (.k (.slice none 0 0)))), none⟩,
  ⟨(some 3), (.op (.mv (.k (.bool false)))), none⟩])
  .ret)
  .skip))
  (.seq
  (.ops [] [
  ⟨(some 26), (.op (.mv (.t 6))), none⟩])
  (.cond (.t 26)
  (.seq
  (.ops [] [
  ⟨(some 27), (.op (.mv (.t 4))), none⟩,
  ⟨(some 28), (.op (.mv (.t 5))), none⟩,
  ⟨(some 29), (.op (.mkSl 1 [(.int .u64 0)] [(0, (1, (.t 28)))])), none⟩,
  ⟨(some 30), (.op (.append 1 8 (.t 27) (.t 29))), none⟩,
  ⟨(some 4), (.op (.mv (.t 30))), none⟩])
  (.ops [] [
  ⟨(some 5), (.op (.mv (.k (.int .u64 0)))), none⟩]))
  .skip)))))))
  (.ops [] [
  ⟨(some 31), (.op (.bin .add (.t 11) (.k (.int .i64 1)))), none⟩,
  ⟨(some 11), (.op (.mv (.t 31))), none⟩])))))))
  (.seq
  (.ops [] [
  ⟨(some 32), (.op (.mv (.t 4))), none⟩,
  ⟨(some 33), (.op (.mv (.t 6))), none⟩,
  ⟨(some 34), (.op (.mv (.t 33))), none⟩,
  ⟨(some 35), (.op (.mv (.t 4))), (some (34, true))⟩,
  ⟨(some 36), (.op (.lenSl (.t 35))), (some (34, true))⟩,
  ⟨(some 37), (.op (.bin .gtr (.t 36) (.k (.int .i64 0)))), (some (34, true))⟩,
  ⟨(some 38), (.op (.pick (.t 34) (.t 37) (.k (.bool false)))), none⟩,
  ⟨(some 2), (.op (.mv (.t 32))), none⟩,
  ⟨(some 3), (.op (.mv (.t 38))), none⟩])
  .ret))))),
  [(.t 2), (.t 3)]⟩
theorem r_scalar_numbers : resolveFn Tryd.prog 58 = some c_scalar_numbers := by kernel_rfl

def c_scalar_just___uint32_ : RFn :=
  ⟨31,
  (.seq
  (.ops [] [
  ⟨(some 6), (.op (.box (.t 2))), none⟩,
  ⟨(some 8), (.op (.mv (.k (.slice none 0 0)))), none⟩,
  ⟨(some 9), (.op (.mv (.k (.int .i64 0)))), none⟩])
  (.seq
  (.ops [] [
  ⟨(some 10), (.op (.mv (.k (.slice none 0 0)))), none⟩])
  (.seq
  (.seq
  (.ops [] [
  ⟨(some 13), (.op (.mv (.t 1))), none⟩,
  ⟨(some 14), (.op (.un .not (.t 13))), none⟩])
  (.cond (.t 14)
  (.seq
  (.ops [] [
  ⟨(some 15), (.op (.mv (.t 10))), none⟩,
  ⟨(some 8), (.op (.mv (.t 15))), none⟩,
  ⟨(some 9), (.op (.mv (.k (.int .i64 2)))), none⟩])
  .ret)
  .skip))
  (.seq
  (.seq
  (.ops [] [
  ⟨(some 17), (.op (.mv (.t 3))), none⟩,
  ⟨(some 18), (.call (.t 17) []), none⟩,
  ⟨(some 16), (.op (.mv (.t 18))), none⟩,
  ⟨(some 19), (.op (.extract (.t 16) 0)), none⟩,
  ⟨(some 20), (.op (.extract (.t 16) 1)), none⟩,
  ⟨(some 11), (.op (.new [(.int .i64 0), (.slice none 0 0), (.slice none 0 0)])), none⟩,
  ⟨none, (.op (.store 3 (.t 11) (.t 19))), none⟩,
  ⟨(some 12), (.op (.mv (.t 20))), none⟩])
  (.seq
  (.ops [] [
  ⟨(some 21), (.op (.mv (.t 12))), none⟩,
  ⟨(some 22), (.op (.bin .neq (.t 21) (.k (.int .i64 0)))), none⟩,
  ⟨(some 23), (.op (.mv (.t 22))), none⟩,
  ⟨(some 24), (.op (.loadN 3 (.t 11))), (some (23, false))⟩,
  ⟨(some 25), (.op (.loadN 3 (.t 6))), (some (23, false))⟩,
  ⟨(some 26), (.call (.k (.func (.func 75) #[] #[])) [(.t 24), (.t 25)]), (some (23, false))⟩,
  ⟨(some 27), (.op (.un .not (.t 26))), (some (23, false))⟩,
  ⟨(some 28), (.op (.pick (.t 23) (.k (.bool true)) (.t 27))), none⟩])
  (.cond (.t 28)
  (.seq
  (.ops [] [
  ⟨(some 29), (.op (.mv (.t 10))), none⟩,
  ⟨(some 8), (.op (.mv (.t 29))), none⟩,
  ⟨(some 9), (.op (.mv (.k (.int .i64 2)))), none⟩])
  .ret)
  .skip)))
  (.seq
  (.ops [] [
  ⟨(some 30), (.op (.mv (.t 0))), none⟩,
  ⟨(some 8), (.op (.mv (.t 30))), none⟩,
  ⟨(some 9), (.op (.mv (.k (.int .i64 0)))), none⟩])
  .ret))))),
  [(.t 8), (.t 9)]⟩
theorem r_scalar_just___uint32_ : resolveFn Tryd.prog 59 = some c_scalar_just___uint32_ := by kernel_rfl

def c_scalar_Arcs_1 : RFn :=
  ⟨7,
  (.seq
  (.ops [] [
  ⟨(some 1), (.op (.new [(.int .i64 0), (.slice none 0 0), (.slice none 0 0)])), none⟩,
  ⟨(some 2), (.op (.mv (.k (.int .i64 0)))), none⟩])
  (.seq
  (.ops [] [
  ⟨(some 3), (.op (.load1 (.t 0))), none⟩,
  ⟨(some 4), (.call (.k (.func (.func 28) #[] #[])) [(.t 3)]), none⟩,
  ⟨(some 5), (.op (.extract (.t 4) 0)), none⟩,
  ⟨(some 6), (.op (.extract (.t 4) 1)), none⟩,
  ⟨none, (.op (.store 3 (.t 1) (.t 5))), none⟩,
  ⟨(some 2), (.op (.mv (.t 6))), none⟩])
  .ret)),
  [(.cN 1 3), (.t 2)]⟩
theorem r_scalar_Arcs_1 : resolveFn Tryd.prog 60 = some c_scalar_Arcs_1 := by kernel_rfl

def c_lanyardlaw05_ScalarNames : RFn :=
  ⟨71,
  (.seq
  (.ops [] [
  ⟨(some 3), (.op (.box (.t 1))), none⟩,
  ⟨(some 4), (.op (.mv (.k (.bool false)))), none⟩])
  (.seq
  (.ops [] [
  ⟨(some 17), (.call (.k (.func (.func 9) #[] #[])) []), none⟩,
  ⟨(some 5), (.op (.mv (.t 17))), none⟩])
  (.seq
  (.ops [] [
  ⟨(some 18), (.op (.loadN 3 (.t 3))), none⟩,
  ⟨(some 19), (.call (.k (.func (.func 10) #[] #[])) [(.t 18)]), none⟩,
  ⟨(some 6), (.op (.mv (.t 19))), none⟩])
  (.seq
  (.seq
  (.ops [] [
  ⟨(some 20), (.op (.mv (.t 6))), none⟩,
  ⟨(some 21), (.op (.un .not (.t 20))), none⟩,
  ⟨(some 22), (.op (.mv (.t 21))), none⟩,
  ⟨(some 23), (.op (.mv (.t 0))), (some (22, false))⟩,
  ⟨(some 24), (.op (.lenSl (.t 23))), (some (22, false))⟩,
  ⟨(some 25), (.op (.bin .gtr (.t 24) (.k (.int .i64 100)))), (some (22, false))⟩,
  ⟨(some 26), (.op (.pick (.t 22) (.k (.bool true)) (.t 25))), none⟩])
  (.cond (.t 26)
  (.seq
  (.ops [] [
  ⟨(some 27), (.op (.mv (.t 5))), none⟩,
  ⟨(some 4), (.op (.mv (.t 27))), none⟩])
  .ret)
  .skip))
  (.seq
  (.ops [] [
  ⟨(some 29), (.op (.mv (.t 0))), none⟩,
  ⟨(some 30), (.call (.k (.func (.func 28) #[] #[])) [(.t 29)]), none⟩,
  ⟨(some 28), (.op (.mv (.t 30))), none⟩,
  ⟨(some 31), (.op (.extract (.t 28) 0)), none⟩,
  ⟨(some 32), (.op (.extract (.t 28) 1)), none⟩,
  ⟨(some 7), (.op (.new [(.int .i64 0), (.slice none 0 0), (.slice none 0 0)])), none⟩,
  ⟨none, (.op (.store 3 (.t 7) (.t 31))), none⟩,
  ⟨(some 8), (.op (.mv (.t 32))), none⟩])
  (.seq
  (.ops [] [
  ⟨(some 34), (.op (.mv (.t 0))), none⟩,
  ⟨(some 35), (.call (.k (.func (.func 29) #[] #[])) [(.t 34)]), none⟩,
  ⟨(some 33), (.op (.mv (.t 35))), none⟩,
  ⟨(some 36), (.op (.extract (.t 33) 0)), none⟩,
  ⟨(some 37), (.op (.extract (.t 33) 1)), none⟩,
  ⟨(some 9), (.op (.new [(.int .i64 0), (.slice none 0 0), (.slice none 0 0)])), none⟩,
  ⟨none, (.op (.store 3 (.t 9) (.t 36))), none⟩,
  ⟨(some 10), (.op (.mv (.t 37))), none⟩])
  (.seq
  (.ops [] [
  ⟨(some 38), (.op (.loadN 3 (.t 7))), none⟩,
  ⟨(some 39), (.op (.loadN 3 (.t 9))), none⟩,
  ⟨(some 40), (.call (.k (.func (.func 11) #[] #[])) [(.t 38), (.t 39)]), none⟩,
  ⟨(some 11), (.op (.mv (.t 40))), none⟩])
  (.seq
  (.ops [] [
  ⟨(some 42), (.op (.loadN 3 (.t 3))), none⟩,
  ⟨(some 43), (.call (.k (.func (.func 30) #[] #[])) [(.t 42)]), none⟩,
  ⟨(some 41), (.op (.mv (.t 43))), none⟩,
  ⟨(some 44), (.op (.extract (.t 41) 0)), none⟩,
  ⟨(some 45), (.op (.extract (.t 41) 1)), none⟩,
  ⟨(some 12), (.op (.mv (.t 44))), none⟩,
  ⟨(some 13), (.op (.mv (.t 45))), none⟩])
  (.seq
  (.ops [] [
  ⟨(some 47), (.op (.loadN 3 (.t 3))), none⟩,
  ⟨(some 48), (.call (.k (.func (.func 31) #[] #[])) [(.t 47)]), none⟩,
  ⟨(some 46), (.op (.mv (.t 48))), none⟩,
  ⟨(some 49), (.op (.extract (.t 46) 0)), none⟩,
  ⟨(some 50), (.op (.extract (.t 46) 1)), none⟩,
  ⟨(some 14), (.op (.mv (.t 49))), none⟩,
  ⟨(some 15), (.op (.mv (.t 50))), none⟩])
  (.seq
  (.ops [] [
  ⟨(some 51), (.op (.mv (.t 12))), none⟩,
  ⟨(some 52), (.op (.mv (.t 14))), none⟩,
  ⟨(some 53), (.call (.k (.func (.func 32) #[] #[])) [(.t 51), (.t 52)]), none⟩,
  ⟨(some 16), (.op (.mv (.t 53))), none⟩])
  (.seq
  (.ops [] [
  ⟨(some 54), (.op (.mv (.t 5))), none⟩,
  ⟨(some 55), (.op (.mv (.t 54))), none⟩,
  ⟨(some 56), (.op (.mv (.t 11))), (some (55, true))⟩,
  ⟨(some 57), (.op (.pick (.t 55) (.t 56) (.k (.bool false)))), none⟩,
  ⟨(some 58), (.op (.mv (.t 57))), none⟩,
  ⟨(some 59), (.op (.mv (.t 8))), (some (58, true))⟩,
  ⟨(some 60), (.op (.mv (.t 10))), (some (58, true))⟩,
  ⟨(some 61), (.op (.bin .eql (.t 59) (.t 60))), (some (58, true))⟩,
  ⟨(some 62), (.op (.pick (.t 58) (.t 61) (.k (.bool false)))), none⟩,
  ⟨(some 63), (.op (.mv (.t 62))), none⟩,
  ⟨(some 64), (.op (.mv (.t 16))), (some (63, true))⟩,
  ⟨(some 65), (.op (.pick (.t 63) (.t 64) (.k (.bool false)))), none⟩,
  ⟨(some 66), (.op (.mv (.t 65))), none⟩,
  ⟨(some 67), (.op (.mv (.t 13))), (some (66, true))⟩,
  ⟨(some 68), (.op (.mv (.t 15))), (some (66, true))⟩,
  ⟨(some 69), (.op (.bin .eql (.t 67) (.t 68))), (some (66, true))⟩,
  ⟨(some 70), (.op (.pick (.t 66) (.t 69) (.k (.bool false)))), none⟩,
  ⟨(some 4), (.op (.mv (.t 70))), none⟩])
  .ret))))))))))),
  [(.t 4)]⟩
end Go.Ga

/- Bits as an element. -/
namespace Go.Ga
open Go Go.Proofs
set_option linter.unusedSimpArgs false
set_option linter.unusedVariables false
set_option maxRecDepth 100000
attribute [local irreducible] appendK

def bitsOk (l : List UInt8) (many : Int) : Bool := decide (0 ≤ many) && decide (many ≤ 8 * (l.length : Int)) && decide (8 * (l.length : Int) - many ≤ 7) && decide ((l.getD (l.length - 1) 0).toNat % 2 ^ (8 * (l.length : Int) - many).toNat = 0)
def bitsR (l : List UInt8) (many : Int) : Except Nat Fo.El := if bitsOk l many then .ok ⟨3, UInt8.ofNat (8 * (l.length : Int) - many).toNat :: l, .nil⟩ else .error 1
theorem bits_err {l : List UInt8} {many : Int} (h : ¬ bitsOk l many = true) : bitsR l many = .error 1 := if_neg h

theorem lt8 {k : Nat} (h : k ≤ 7) : k = 0 ∨ k = 1 ∨ k = 2 ∨ k = 3 ∨ k = 4 ∨ k = 5 ∨ k = 6 ∨ k = 7 := by omega
theorem shl8 {k : Nat} (h : k ≤ 7) : shlV .u8 1 (k : Int) = ((2 ^ k : Nat) : Int) := by
  rcases lt8 h with rfl | rfl | rfl | rfl | rfl | rfl | rfl | rfl <;> decide
theorem pow8 {k : Nat} (h : k ≤ 7) : 1 ≤ 2 ^ k ∧ 2 ^ k ≤ 128 := by
  rcases lt8 h with rfl | rfl | rfl | rfl | rfl | rfl | rfl | rfl <;> decide
theorem mask8 {x k : Nat} (hx : x < 256) (h : k ≤ 7) : bitsV .and .u8 (x : Int) (IntKind.u8.wrap (shlV .u8 1 (k : Int) - 1)) = ((x % 2 ^ k : Nat) : Int) := by
  have hp := pow8 h
  have e0 : IntKind.u8.wrap (shlV .u8 1 (k : Int) - 1) = ((2 ^ k - 1 : Nat) : Int) := by
    rw [shl8 h, u8_w]
    generalize 2 ^ k = y at *
    omega
  have e : x &&& (2 ^ k - 1) = x % 2 ^ k := Nat.and_two_pow_sub_one_eq_mod x k
  have hm : x % 2 ^ k < 2 ^ k := Nat.mod_lt _ (by omega)
  rw [e0]
  show IntKind.u8.wrap ((BitVec.ofInt 8 (x : Int) &&& BitVec.ofInt 8 ((2 ^ k - 1 : Nat) : Int)).toNat : Int) = _
  simp only [BitVec.ofInt_natCast, BitVec.toNat_and, BitVec.toNat_ofNat]
  rw [Nat.mod_eq_of_lt (by omega), Nat.mod_eq_of_lt (by omega), e, u8_w]
  generalize 2 ^ k = y at *
  omega

section
variable {nx : Nat} {gt : Nat → Option Blk}

theorem ct_Bits {A : Option Addr} {n c : Nat} {l : List UInt8} {many : Int} (hA : Row nx gt 1 A n (l.map u8V)) (hc : n ≤ c) (hn : n ≤ 1000000) (hm : -9223372036854775808 ≤ many ∧ many ≤ 9223372036854775807) :
    Ct Tryd.prog 20 [.slice A n c, .int .i64 many] nx gt fun v x g => NErr nx x g v (bitsR l many) := by
  have hl : l.length = n := by simpa using hA.len
  refine Ct.of hmx r_scalar_Bits (by simp [c_scalar_Bits]) fun b hb => ?_
  have hF : ∀ q, q < nx → upd gt nx (some (.cells [Value.int .i64 0, .slice none 0 0, .slice none 0 0] false)) q = gt q := fun q hq => by simp only [upd_e]; rw [if_neg (by omega)]
  have hb0 : upd gt nx (some (.cells [Value.int .i64 0, .slice none 0 0, .slice none 0 0] false)) nx = some (.cells [Value.int .i64 0, .slice none 0 0, .slice none 0 0] false) := by simp only [upd_e, if_true]
  by_cases h0 : many < 0
  · rw [bits_err (by unfold bitsOk; simp; omega)]
    simp only [c_scalar_Bits, ↓gaW, ↓gaV, ↓gaC, ↓gaN, gaP, Nat.reduceEqDiff, Nat.reduceLeDiff, Nat.reduceAdd, Nat.reduceSub, Nat.reduceMul, Int.reduceLT, Int.reduceLE, Int.reduceEq, Int.reduceToNat, Int.reduceAdd, Int.reduceSub, Int.reduceMul, reduceCtorEq, ↓reduceIte, List.getD_cons_zero, List.getD_cons_succ, fillL, splice, List.take_zero, List.drop_zero, List.drop_succ_cons, List.take_succ_cons, List.drop_nil, List.take_nil, gaU, h0, decide_true]
    repeat refine And.intro (by omega) ?_
    refine And.intro (node_cells _ _ _ _ _ _ _) ?_
    exact end_nT (q := nx) (t := 0) (B := none) (m := 0) (d := 0) (A := none) (n := 0) (c := 0) (ro := false) (w := .int .i64 1) (by first | (simp only [↓gaW, ↓gaV, ↓gaC, ↓gaN, gaP, Nat.reduceEqDiff, Nat.reduceLeDiff, Nat.reduceAdd, Nat.reduceSub, Nat.reduceMul, Int.reduceLT, Int.reduceLE, Int.reduceEq, Int.reduceToNat, Int.reduceAdd, Int.reduceSub, Int.reduceMul, reduceCtorEq, ↓reduceIte]; done) | (simp only [↓gaW, ↓gaV, ↓gaC, ↓gaN, gaP, Nat.reduceEqDiff, Nat.reduceLeDiff, Nat.reduceAdd, Nat.reduceSub, Nat.reduceMul, Int.reduceLT, Int.reduceLE, Int.reduceEq, Int.reduceToNat, Int.reduceAdd, Int.reduceSub, Int.reduceMul, reduceCtorEq, ↓reduceIte]; rfl)) (by first | (simp only [↓gaW, ↓gaV, ↓gaC, ↓gaN, gaP, Nat.reduceEqDiff, Nat.reduceLeDiff, Nat.reduceAdd, Nat.reduceSub, Nat.reduceMul, Int.reduceLT, Int.reduceLE, Int.reduceEq, Int.reduceToNat, Int.reduceAdd, Int.reduceSub, Int.reduceMul, reduceCtorEq, ↓reduceIte]; done) | (simp only [↓gaW, ↓gaV, ↓gaC, ↓gaN, gaP, Nat.reduceEqDiff, Nat.reduceLeDiff, Nat.reduceAdd, Nat.reduceSub, Nat.reduceMul, Int.reduceLT, Int.reduceLE, Int.reduceEq, Int.reduceToNat, Int.reduceAdd, Int.reduceSub, Int.reduceMul, reduceCtorEq, ↓reduceIte]; rfl)) (by simp only [upd_e, if_true]) (by omega) (fun p hp => by simp only [upd_e]; rw [if_neg (by omega), if_neg (by omega)]) ⟨rfl, by omega⟩
  have i1 : IntKind.i64.wrap (IntKind.i64.wrap (8 * (n : Int)) - many) = 8 * (n : Int) - many := by rw [i64_w (8 * (n : Int)) (by omega), i64_w _ (by omega)]
  obtain ⟨k, hk⟩ : ∃ k : Int, 8 * (n : Int) - many = k := ⟨_, rfl⟩
  rw [hk] at i1
  by_cases h1 : k < 0
  · rw [bits_err (by unfold bitsOk; simp; omega)]
    simp only [c_scalar_Bits, ↓gaW, ↓gaV, ↓gaC, ↓gaN, gaP, Nat.reduceEqDiff, Nat.reduceLeDiff, Nat.reduceAdd, Nat.reduceSub, Nat.reduceMul, Int.reduceLT, Int.reduceLE, Int.reduceEq, Int.reduceToNat, Int.reduceAdd, Int.reduceSub, Int.reduceMul, reduceCtorEq, ↓reduceIte, List.getD_cons_zero, List.getD_cons_succ, fillL, splice, List.take_zero, List.drop_zero, List.drop_succ_cons, List.take_succ_cons, List.drop_nil, List.take_nil, gaU, h0, decide_false, i1, h1, decide_true]
    repeat refine And.intro (by omega) ?_
    refine And.intro (node_cells _ _ _ _ _ _ _) ?_
    exact end_nT (q := nx) (t := 0) (B := none) (m := 0) (d := 0) (A := none) (n := 0) (c := 0) (ro := false) (w := .int .i64 1) (by first | (simp only [↓gaW, ↓gaV, ↓gaC, ↓gaN, gaP, Nat.reduceEqDiff, Nat.reduceLeDiff, Nat.reduceAdd, Nat.reduceSub, Nat.reduceMul, Int.reduceLT, Int.reduceLE, Int.reduceEq, Int.reduceToNat, Int.reduceAdd, Int.reduceSub, Int.reduceMul, reduceCtorEq, ↓reduceIte]; done) | (simp only [↓gaW, ↓gaV, ↓gaC, ↓gaN, gaP, Nat.reduceEqDiff, Nat.reduceLeDiff, Nat.reduceAdd, Nat.reduceSub, Nat.reduceMul, Int.reduceLT, Int.reduceLE, Int.reduceEq, Int.reduceToNat, Int.reduceAdd, Int.reduceSub, Int.reduceMul, reduceCtorEq, ↓reduceIte]; rfl)) (by first | (simp only [↓gaW, ↓gaV, ↓gaC, ↓gaN, gaP, Nat.reduceEqDiff, Nat.reduceLeDiff, Nat.reduceAdd, Nat.reduceSub, Nat.reduceMul, Int.reduceLT, Int.reduceLE, Int.reduceEq, Int.reduceToNat, Int.reduceAdd, Int.reduceSub, Int.reduceMul, reduceCtorEq, ↓reduceIte]; done) | (simp only [↓gaW, ↓gaV, ↓gaC, ↓gaN, gaP, Nat.reduceEqDiff, Nat.reduceLeDiff, Nat.reduceAdd, Nat.reduceSub, Nat.reduceMul, Int.reduceLT, Int.reduceLE, Int.reduceEq, Int.reduceToNat, Int.reduceAdd, Int.reduceSub, Int.reduceMul, reduceCtorEq, ↓reduceIte]; rfl)) (by simp only [upd_e, if_true]) (by omega) (fun p hp => by simp only [upd_e]; rw [if_neg (by omega), if_neg (by omega)]) ⟨rfl, by omega⟩
  by_cases h2 : 7 < k
  · rw [bits_err (by unfold bitsOk; simp; omega)]
    simp only [c_scalar_Bits, ↓gaW, ↓gaV, ↓gaC, ↓gaN, gaP, Nat.reduceEqDiff, Nat.reduceLeDiff, Nat.reduceAdd, Nat.reduceSub, Nat.reduceMul, Int.reduceLT, Int.reduceLE, Int.reduceEq, Int.reduceToNat, Int.reduceAdd, Int.reduceSub, Int.reduceMul, reduceCtorEq, ↓reduceIte, List.getD_cons_zero, List.getD_cons_succ, fillL, splice, List.take_zero, List.drop_zero, List.drop_succ_cons, List.take_succ_cons, List.drop_nil, List.take_nil, gaU, h0, decide_false, i1, h1, h2, decide_true]
    repeat refine And.intro (by omega) ?_
    refine And.intro (node_cells _ _ _ _ _ _ _) ?_
    exact end_nT (q := nx) (t := 0) (B := none) (m := 0) (d := 0) (A := none) (n := 0) (c := 0) (ro := false) (w := .int .i64 1) (by first | (simp only [↓gaW, ↓gaV, ↓gaC, ↓gaN, gaP, Nat.reduceEqDiff, Nat.reduceLeDiff, Nat.reduceAdd, Nat.reduceSub, Nat.reduceMul, Int.reduceLT, Int.reduceLE, Int.reduceEq, Int.reduceToNat, Int.reduceAdd, Int.reduceSub, Int.reduceMul, reduceCtorEq, ↓reduceIte]; done) | (simp only [↓gaW, ↓gaV, ↓gaC, ↓gaN, gaP, Nat.reduceEqDiff, Nat.reduceLeDiff, Nat.reduceAdd, Nat.reduceSub, Nat.reduceMul, Int.reduceLT, Int.reduceLE, Int.reduceEq, Int.reduceToNat, Int.reduceAdd, Int.reduceSub, Int.reduceMul, reduceCtorEq, ↓reduceIte]; rfl)) (by first | (simp only [↓gaW, ↓gaV, ↓gaC, ↓gaN, gaP, Nat.reduceEqDiff, Nat.reduceLeDiff, Nat.reduceAdd, Nat.reduceSub, Nat.reduceMul, Int.reduceLT, Int.reduceLE, Int.reduceEq, Int.reduceToNat, Int.reduceAdd, Int.reduceSub, Int.reduceMul, reduceCtorEq, ↓reduceIte]; done) | (simp only [↓gaW, ↓gaV, ↓gaC, ↓gaN, gaP, Nat.reduceEqDiff, Nat.reduceLeDiff, Nat.reduceAdd, Nat.reduceSub, Nat.reduceMul, Int.reduceLT, Int.reduceLE, Int.reduceEq, Int.reduceToNat, Int.reduceAdd, Int.reduceSub, Int.reduceMul, reduceCtorEq, ↓reduceIte]; rfl)) (by simp only [upd_e, if_true]) (by omega) (fun p hp => by simp only [upd_e]; rw [if_neg (by omega), if_neg (by omega)]) ⟨rfl, by omega⟩
  obtain ⟨k, rfl⟩ : ∃ j : Nat, k = (j : Int) := ⟨k.toNat, by omega⟩
  have hkt : (8 * (l.length : Int) - many).toNat = k := by rw [hl]; omega
  by_cases h3 : (0 : Int) < (k : Int)
  · obtain ⟨a, cl, ro, rfl, r2, r3, r4, r5⟩ := hA.cells (by omega)
    have i2 : IntKind.i64.wrap ((n : Int) - 1) = ((n - 1 : Nat) : Int) := by rw [i64_w _ (by omega)]; omega
    have hqn : (a.block = nx) = False := by simp; omega
    have c0 : cl.getD (a.off + (n - 1)) undef = .int .u8 ((l.getD (n - 1) 0).toNat : Nat) := by rw [r5 (n - 1) (by omega), getD_u8 (by omega)]
    have hx := (l.getD (n - 1) 0).toNat_lt
    have hp := pow8 (k := k) (by omega)
    by_cases h4 : (((l.getD (n - 1) 0).toNat % 2 ^ k : Nat) : Int) = 0
    · have hr : bitsR l many = .ok ⟨3, UInt8.ofNat k :: l, .nil⟩ := by
        unfold bitsR
        rw [hkt, if_pos]
        unfold bitsOk
        rw [hkt, hl]
        simp only [Bool.and_eq_true, decide_eq_true_eq]
        exact ⟨⟨⟨by omega, by omega⟩, by omega⟩, by omega⟩
      rw [hr]
      simp only [c_scalar_Bits, ↓gaW, ↓gaV, ↓gaC, ↓gaN, gaP, Nat.reduceEqDiff, Nat.reduceLeDiff, Nat.reduceAdd, Nat.reduceSub, Nat.reduceMul, Int.reduceLT, Int.reduceLE, Int.reduceEq, Int.reduceToNat, Int.reduceAdd, Int.reduceSub, Int.reduceMul, reduceCtorEq, ↓reduceIte, List.getD_cons_zero, List.getD_cons_succ, fillL, splice, List.take_zero, List.drop_zero, List.drop_succ_cons, List.take_succ_cons, List.drop_nil, List.take_nil, gaU, h0, decide_false, i1, i2, h1, h2, h3, decide_true, hqn, r3, c0, mask8 hx (show k ≤ 7 by omega), h4, not_true]
      obtain ⟨A, hAe⟩ : ∃ A : Option Addr, A = some a := ⟨_, rfl⟩
      rw [← hAe] at hA ⊢
      have e8 : Value.int .u8 (IntKind.u8.wrap (k : Int)) = u8V (UInt8.ofNat k) := by
        show _ = Value.int .u8 _
        exact congrArg (Value.int .u8) (by first | rfl | (rw [UInt8.toNat_ofNat', u8_w]; omega))
      rw [e8]
      have hZ : ∀ p, p < nx + 1 → upd (upd gt nx (some (.cells [Value.int .i64 0, .slice none 0 0, .slice none 0 0] false))) (nx + 1) (some (.cells [u8V (UInt8.ofNat k)] false)) p = upd gt nx (some (.cells [Value.int .i64 0, .slice none 0 0, .slice none 0 0] false)) p := fun p hp => by rw [upd_e, if_neg (by omega)]
      have hz : upd (upd gt nx (some (.cells [Value.int .i64 0, .slice none 0 0, .slice none 0 0] false))) (nx + 1) (some (.cells [u8V (UInt8.ofNat k)] false)) (nx + 1) = some (.cells [u8V (UInt8.ofNat k)] false) := by rw [upd_e, if_pos rfl]
      have e1 : rowOf ⟨nx + 1 + 1, b, upd (upd gt nx (some (.cells [Value.int .i64 0, .slice none 0 0, .slice none 0 0] false))) (nx + 1) (some (.cells [u8V (UInt8.ofNat k)] false))⟩ A n = some (l.map u8V) := (hA.keep (nx' := nx + 1 + 1) (by omega) fun p hp => by rw [hZ p (by omega), hF p hp]).rowOf
      repeat refine And.intro (by omega) ?_
      rw [e1]
      simp only [asO_e]
      refine app_litN (bytes := 1) (z := nx + 1) (n := 1) (e := 1) (by omega) hz rfl (by omega) (by simp [hl]) (all_u8 _) (by omega) (by omega) fun A6 x6 g6 l6 k6 r6 => ?_
      rw [Nat.mul_one] at r6
      have hb6 : g6 nx = some (.cells [Value.int .i64 0, .slice none 0 0, .slice none 0 0] false) := by rw [k6 nx (by omega), hZ nx (by omega), hb0]
      have ext : ∀ (g : Nat → Option Blk) (cs : List Value), (∀ p, p ≠ nx → upd g nx (some (.cells cs false)) p = g p) := fun g cs p hp => by simp only [upd_e]; rw [if_neg hp]
      simp only [↓gaW, ↓gaV, ↓gaC, ↓gaN, gaP, Nat.reduceEqDiff, Nat.reduceLeDiff, Nat.reduceAdd, Nat.reduceSub, Nat.reduceMul, Int.reduceLT, Int.reduceLE, Int.reduceEq, Int.reduceToNat, Int.reduceAdd, Int.reduceSub, Int.reduceMul, reduceCtorEq, ↓reduceIte, List.getD_cons_zero, List.getD_cons_succ, fillL, splice, List.take_zero, List.drop_zero, List.drop_succ_cons, List.take_succ_cons, List.drop_nil, List.take_nil, hb6]
      refine And.intro (by omega) (And.intro (node_cells _ _ _ _ _ _ _) ?_)
      refine end_nT (q := nx) (t := 3) (B := A6) (m := 1 + n) (d := 1 + n) (A := none) (n := 0) (c := 0) (ro := false) (w := .int .i64 0) (by first | (simp only [↓gaW, ↓gaV, ↓gaC, ↓gaN, gaP, Nat.reduceEqDiff, Nat.reduceLeDiff, Nat.reduceAdd, Nat.reduceSub, Nat.reduceMul, Int.reduceLT, Int.reduceLE, Int.reduceEq, Int.reduceToNat, Int.reduceAdd, Int.reduceSub, Int.reduceMul, reduceCtorEq, ↓reduceIte]; done) | (simp only [↓gaW, ↓gaV, ↓gaC, ↓gaN, gaP, Nat.reduceEqDiff, Nat.reduceLeDiff, Nat.reduceAdd, Nat.reduceSub, Nat.reduceMul, Int.reduceLT, Int.reduceLE, Int.reduceEq, Int.reduceToNat, Int.reduceAdd, Int.reduceSub, Int.reduceMul, reduceCtorEq, ↓reduceIte]; rfl)) (by first | (simp only [↓gaW, ↓gaV, ↓gaC, ↓gaN, gaP, Nat.reduceEqDiff, Nat.reduceLeDiff, Nat.reduceAdd, Nat.reduceSub, Nat.reduceMul, Int.reduceLT, Int.reduceLE, Int.reduceEq, Int.reduceToNat, Int.reduceAdd, Int.reduceSub, Int.reduceMul, reduceCtorEq, ↓reduceIte]; done) | (simp only [↓gaW, ↓gaV, ↓gaC, ↓gaN, gaP, Nat.reduceEqDiff, Nat.reduceLeDiff, Nat.reduceAdd, Nat.reduceSub, Nat.reduceMul, Int.reduceLT, Int.reduceLE, Int.reduceEq, Int.reduceToNat, Int.reduceAdd, Int.reduceSub, Int.reduceMul, reduceCtorEq, ↓reduceIte]; rfl)) (by simp only [upd_e, if_true]) (by omega) (fun p hp => by rw [ext _ _ p (by omega), k6 p (by omega), hZ p (by omega), hF p hp]) ⟨_, rfl, ?_⟩
      have r7 : RowL (nx + 1) x6 g6 1 A6 (1 + n) ((UInt8.ofNat k :: l).map u8V) := r6
      exact NodeIs.leaf (by omega) ((r7.keep (Nat.le_refl _) fun p hp _ => ext _ _ p (by omega)).wid (by omega)) (Nat.le_refl _)
    · rw [bits_err (by unfold bitsOk; rw [hkt, hl]; simp only [Bool.and_eq_true, decide_eq_true_eq]; omega)]
      simp only [c_scalar_Bits, ↓gaW, ↓gaV, ↓gaC, ↓gaN, gaP, Nat.reduceEqDiff, Nat.reduceLeDiff, Nat.reduceAdd, Nat.reduceSub, Nat.reduceMul, Int.reduceLT, Int.reduceLE, Int.reduceEq, Int.reduceToNat, Int.reduceAdd, Int.reduceSub, Int.reduceMul, reduceCtorEq, ↓reduceIte, List.getD_cons_zero, List.getD_cons_succ, fillL, splice, List.take_zero, List.drop_zero, List.drop_succ_cons, List.take_succ_cons, List.drop_nil, List.take_nil, gaU, h0, decide_false, i1, i2, h1, h2, h3, decide_true, hqn, r3, c0, mask8 hx (show k ≤ 7 by omega), h4, not_false_eq_true]
      repeat refine And.intro (by omega) ?_
      refine And.intro (node_cells _ _ _ _ _ _ _) ?_
      exact end_nT (q := nx) (t := 0) (B := none) (m := 0) (d := 0) (A := none) (n := 0) (c := 0) (ro := false) (w := .int .i64 1) (by first | (simp only [↓gaW, ↓gaV, ↓gaC, ↓gaN, gaP, Nat.reduceEqDiff, Nat.reduceLeDiff, Nat.reduceAdd, Nat.reduceSub, Nat.reduceMul, Int.reduceLT, Int.reduceLE, Int.reduceEq, Int.reduceToNat, Int.reduceAdd, Int.reduceSub, Int.reduceMul, reduceCtorEq, ↓reduceIte]; done) | (simp only [↓gaW, ↓gaV, ↓gaC, ↓gaN, gaP, Nat.reduceEqDiff, Nat.reduceLeDiff, Nat.reduceAdd, Nat.reduceSub, Nat.reduceMul, Int.reduceLT, Int.reduceLE, Int.reduceEq, Int.reduceToNat, Int.reduceAdd, Int.reduceSub, Int.reduceMul, reduceCtorEq, ↓reduceIte]; rfl)) (by first | (simp only [↓gaW, ↓gaV, ↓gaC, ↓gaN, gaP, Nat.reduceEqDiff, Nat.reduceLeDiff, Nat.reduceAdd, Nat.reduceSub, Nat.reduceMul, Int.reduceLT, Int.reduceLE, Int.reduceEq, Int.reduceToNat, Int.reduceAdd, Int.reduceSub, Int.reduceMul, reduceCtorEq, ↓reduceIte]; done) | (simp only [↓gaW, ↓gaV, ↓gaC, ↓gaN, gaP, Nat.reduceEqDiff, Nat.reduceLeDiff, Nat.reduceAdd, Nat.reduceSub, Nat.reduceMul, Int.reduceLT, Int.reduceLE, Int.reduceEq, Int.reduceToNat, Int.reduceAdd, Int.reduceSub, Int.reduceMul, reduceCtorEq, ↓reduceIte]; rfl)) (by simp only [upd_e, if_true]) (by omega) (fun p hp => by simp only [upd_e]; rw [if_neg (by omega), if_neg (by omega)]) ⟨rfl, by omega⟩
  · have hk0 : k = 0 := by omega
    have hr : bitsR l many = .ok ⟨3, UInt8.ofNat k :: l, .nil⟩ := by
      unfold bitsR
      rw [hkt, if_pos]
      unfold bitsOk
      rw [hkt, hl, hk0]
      simp only [Bool.and_eq_true, decide_eq_true_eq, Nat.pow_zero, Nat.mod_one]
      exact ⟨⟨⟨by omega, by omega⟩, by omega⟩, trivial⟩
    rw [hr]
    simp only [c_scalar_Bits, ↓gaW, ↓gaV, ↓gaC, ↓gaN, gaP, Nat.reduceEqDiff, Nat.reduceLeDiff, Nat.reduceAdd, Nat.reduceSub, Nat.reduceMul, Int.reduceLT, Int.reduceLE, Int.reduceEq, Int.reduceToNat, Int.reduceAdd, Int.reduceSub, Int.reduceMul, reduceCtorEq, ↓reduceIte, List.getD_cons_zero, List.getD_cons_succ, fillL, splice, List.take_zero, List.drop_zero, List.drop_succ_cons, List.take_succ_cons, List.drop_nil, List.take_nil, gaU, h0, decide_false, i1, h1, h2, h3, decide_true]
    have e8 : Value.int .u8 (IntKind.u8.wrap (k : Int)) = u8V (UInt8.ofNat k) := by
      show _ = Value.int .u8 _
      exact congrArg (Value.int .u8) (by first | rfl | (rw [UInt8.toNat_ofNat', u8_w]; omega))
    rw [e8]
    have hZ : ∀ p, p < nx + 1 → upd (upd gt nx (some (.cells [Value.int .i64 0, .slice none 0 0, .slice none 0 0] false))) (nx + 1) (some (.cells [u8V (UInt8.ofNat k)] false)) p = upd gt nx (some (.cells [Value.int .i64 0, .slice none 0 0, .slice none 0 0] false)) p := fun p hp => by rw [upd_e, if_neg (by omega)]
    have hz : upd (upd gt nx (some (.cells [Value.int .i64 0, .slice none 0 0, .slice none 0 0] false))) (nx + 1) (some (.cells [u8V (UInt8.ofNat k)] false)) (nx + 1) = some (.cells [u8V (UInt8.ofNat k)] false) := by rw [upd_e, if_pos rfl]
    have e1 : rowOf ⟨nx + 1 + 1, b, upd (upd gt nx (some (.cells [Value.int .i64 0, .slice none 0 0, .slice none 0 0] false))) (nx + 1) (some (.cells [u8V (UInt8.ofNat k)] false))⟩ A n = some (l.map u8V) := (hA.keep (nx' := nx + 1 + 1) (by omega) fun p hp => by rw [hZ p (by omega), hF p hp]).rowOf
    repeat refine And.intro (by omega) ?_
    rw [e1]
    simp only [asO_e]
    refine app_litN (bytes := 1) (z := nx + 1) (n := 1) (e := 1) (by omega) hz rfl (by omega) (by simp [hl]) (all_u8 _) (by omega) (by omega) fun A6 x6 g6 l6 k6 r6 => ?_
    rw [Nat.mul_one] at r6
    have hb6 : g6 nx = some (.cells [Value.int .i64 0, .slice none 0 0, .slice none 0 0] false) := by rw [k6 nx (by omega), hZ nx (by omega), hb0]
    have ext : ∀ (g : Nat → Option Blk) (cs : List Value), (∀ p, p ≠ nx → upd g nx (some (.cells cs false)) p = g p) := fun g cs p hp => by simp only [upd_e]; rw [if_neg hp]
    simp only [↓gaW, ↓gaV, ↓gaC, ↓gaN, gaP, Nat.reduceEqDiff, Nat.reduceLeDiff, Nat.reduceAdd, Nat.reduceSub, Nat.reduceMul, Int.reduceLT, Int.reduceLE, Int.reduceEq, Int.reduceToNat, Int.reduceAdd, Int.reduceSub, Int.reduceMul, reduceCtorEq, ↓reduceIte, List.getD_cons_zero, List.getD_cons_succ, fillL, splice, List.take_zero, List.drop_zero, List.drop_succ_cons, List.take_succ_cons, List.drop_nil, List.take_nil, hb6]
    refine And.intro (by omega) (And.intro (node_cells _ _ _ _ _ _ _) ?_)
    refine end_nT (q := nx) (t := 3) (B := A6) (m := 1 + n) (d := 1 + n) (A := none) (n := 0) (c := 0) (ro := false) (w := .int .i64 0) (by first | (simp only [↓gaW, ↓gaV, ↓gaC, ↓gaN, gaP, Nat.reduceEqDiff, Nat.reduceLeDiff, Nat.reduceAdd, Nat.reduceSub, Nat.reduceMul, Int.reduceLT, Int.reduceLE, Int.reduceEq, Int.reduceToNat, Int.reduceAdd, Int.reduceSub, Int.reduceMul, reduceCtorEq, ↓reduceIte]; done) | (simp only [↓gaW, ↓gaV, ↓gaC, ↓gaN, gaP, Nat.reduceEqDiff, Nat.reduceLeDiff, Nat.reduceAdd, Nat.reduceSub, Nat.reduceMul, Int.reduceLT, Int.reduceLE, Int.reduceEq, Int.reduceToNat, Int.reduceAdd, Int.reduceSub, Int.reduceMul, reduceCtorEq, ↓reduceIte]; rfl)) (by first | (simp only [↓gaW, ↓gaV, ↓gaC, ↓gaN, gaP, Nat.reduceEqDiff, Nat.reduceLeDiff, Nat.reduceAdd, Nat.reduceSub, Nat.reduceMul, Int.reduceLT, Int.reduceLE, Int.reduceEq, Int.reduceToNat, Int.reduceAdd, Int.reduceSub, Int.reduceMul, reduceCtorEq, ↓reduceIte]; done) | (simp only [↓gaW, ↓gaV, ↓gaC, ↓gaN, gaP, Nat.reduceEqDiff, Nat.reduceLeDiff, Nat.reduceAdd, Nat.reduceSub, Nat.reduceMul, Int.reduceLT, Int.reduceLE, Int.reduceEq, Int.reduceToNat, Int.reduceAdd, Int.reduceSub, Int.reduceMul, reduceCtorEq, ↓reduceIte]; rfl)) (by simp only [upd_e, if_true]) (by omega) (fun p hp => by rw [ext _ _ p (by omega), k6 p (by omega), hZ p (by omega), hF p hp]) ⟨_, rfl, ?_⟩
    have r7 : RowL (nx + 1) x6 g6 1 A6 (1 + n) ((UInt8.ofNat k :: l).map u8V) := r6
    exact NodeIs.leaf (by omega) ((r7.keep (Nat.le_refl _) fun p hp _ => ext _ _ p (by omega)).wid (by omega)) (Nat.le_refl _)
end
end Go.Ga

/- Truths, and the bits of an element. -/
namespace Go.Ga
open Go Go.Proofs
set_option linter.unusedSimpArgs false
set_option linter.unusedVariables false
set_option maxRecDepth 100000
attribute [local irreducible] appendK

def boolE (is : Bool) : Fo.El := ⟨1, [if is then 255 else 0], .nil⟩
noncomputable def trueR (x : Fo.El) : Bool × Nat := open Classical in if x = boolE true then (true, 0) else if x = boolE false then (false, 0) else (false, 2)
noncomputable def ofR (x : Fo.El) : List UInt8 × Int × Nat := open Classical in if x.b ≠ [] ∧ bitsR x.b.tail (8 * (x.b.tail.length : Int) - (x.b.headD 0).toNat) = .ok x then (x.b.tail, 8 * (x.b.tail.length : Int) - (x.b.headD 0).toNat, 0) else ([], 0, 2)
theorem bitsR_k {l : List UInt8} {many : Int} {y : Fo.El} (h : bitsR l many = .ok y) : y.k = .nil := by
  unfold bitsR at h
  split at h
  · injection h with h; rw [← h]
  · cases h
theorem bitsR_ws {l : List UInt8} {many : Int} {y : Fo.El} (h : bitsR l many = .ok y) : y.f.ws ≤ l.length + 2 := by
  unfold bitsR at h
  split at h
  · injection h with h; rw [← h]
    show 1 + (_ :: l).length + 0 + 0 ≤ _
    simp only [List.length_cons]; omega
  · cases h

section
variable {nx : Nat} {gt : Nat → Option Blk}



end
end Go.Ga

/- The truth of an element. -/
namespace Go.Ga
open Go Go.Proofs
set_option linter.unusedSimpArgs false
set_option linter.unusedVariables false
set_option maxRecDepth 100000
attribute [local irreducible] appendK

def isT (l : List UInt8) : Bool := match l with | [] => false | a :: _ => decide (¬ (a.toNat : Int) = 0)
section
variable {nx : Nat} {gt : Nat → Option Blk}

end
end Go.Ga

/- The document's truth; the bits of an element. -/
namespace Go.Ga
open Go Go.Proofs
set_option linter.unusedSimpArgs false
set_option linter.unusedVariables false
set_option maxRecDepth 100000
attribute [local irreducible] appendK

def OErr (nx : Nat) (g : Nat → Option Blk) (v : Value) (r : List UInt8 × Int × Nat) : Prop := ∃ u, v = .tuple #[u, .int .i64 r.2.1, .int .i64 (r.2.2 : Nat)] ∧ BySl nx g u r.1

section
variable {nx : Nat} {gt : Nat → Option Blk}


theorem ct_Of1 {q q2 : Nat} {ro ro2 : Bool} {A0 : Option Addr} {n0 c0 : Nat} {l : List UInt8} {many : Int} (hq : q < nx) (hg : gt q = some (.cells [.slice A0 n0 c0] ro)) (hq2 : q2 < nx) (hg2 : gt q2 = some (.cells [.int .i64 many] ro2)) (hA : Row nx gt 1 A0 n0 (l.map u8V)) (hc : n0 ≤ c0) (hn : n0 ≤ 1000000) (hm : -9223372036854775808 ≤ many ∧ many ≤ 9223372036854775807) :
    Ct Tryd.prog 53 [.pointer (some ⟨q, 0, none⟩), .pointer (some ⟨q2, 0, none⟩)] nx gt fun v x g => NErr nx x g v (bitsR l many) := by
  refine Ct.of hmx r_scalar_Of_1 (by simp [c_scalar_Of_1]) fun b hb => ?_
  have hF : ∀ q, q < nx → upd gt nx (some (.cells [Value.int .i64 0, .slice none 0 0, .slice none 0 0] false)) q = gt q := fun q hq => by simp only [upd_e]; rw [if_neg (by omega)]
  have hb0 : upd gt nx (some (.cells [Value.int .i64 0, .slice none 0 0, .slice none 0 0] false)) nx = some (.cells [Value.int .i64 0, .slice none 0 0, .slice none 0 0] false) := by simp only [upd_e, if_true]
  have hqn : (q = nx) = False := by simp; omega
  have hqn2 : (q2 = nx) = False := by simp; omega
  simp only [c_scalar_Of_1, ↓gaW, ↓gaV, ↓gaC, ↓gaN, gaP, Nat.reduceEqDiff, Nat.reduceLeDiff, Nat.reduceAdd, Nat.reduceSub, Nat.reduceMul, Int.reduceLT, Int.reduceLE, Int.reduceEq, Int.reduceToNat, Int.reduceAdd, Int.reduceSub, Int.reduceMul, reduceCtorEq, ↓reduceIte, List.getD_cons_zero, List.getD_cons_succ, fillL, splice, List.take_zero, List.drop_zero, List.drop_succ_cons, List.take_succ_cons, List.drop_nil, List.take_nil, gaU, hqn, hqn2, hg, hg2, List.getD_cons_zero]
  generalize upd gt nx (some (.cells [Value.int .i64 0, .slice none 0 0, .slice none 0 0] false)) = g0 at *
  repeat refine And.intro (by omega) ?_
  refine callK_of (ct_Bits (hA.keep (nx' := nx + 1) (by omega) hF) hc hn hm) (fun v x1 g1 l1 k1 hC => ?_) (by omega)
  have F1 : ∀ p, p < nx → g1 p = gt p := fun p hp => by rw [k1 p (by omega), hF p hp]
  have hb1 : g1 nx = some (.cells [Value.int .i64 0, .slice none 0 0, .slice none 0 0] false) := by rw [k1 nx (by omega), hb0]
  have ext : ∀ (cs : List Value), (∀ p, p ≠ nx → upd g1 nx (some (.cells cs false)) p = g1 p) := fun cs p hp => by simp only [upd_e]; rw [if_neg hp]
  cases hr : bitsR l many with
  | error e =>
    rw [hr] at hC
    obtain ⟨rfl, he⟩ := hC
    simp only [↓gaW, ↓gaV, ↓gaC, ↓gaN, gaP, Nat.reduceEqDiff, Nat.reduceLeDiff, Nat.reduceAdd, Nat.reduceSub, Nat.reduceMul, Int.reduceLT, Int.reduceLE, Int.reduceEq, Int.reduceToNat, Int.reduceAdd, Int.reduceSub, Int.reduceMul, reduceCtorEq, ↓reduceIte, List.getD_cons_zero, List.getD_cons_succ, fillL, splice, List.take_zero, List.drop_zero, List.drop_succ_cons, List.take_succ_cons, List.drop_nil, List.take_nil, hb1]
    refine And.intro (by omega) (And.intro (by omega) ?_)
    repeat refine And.intro (by omega) ?_
    refine And.intro (node_cells _ _ _ _ _ _ _) ?_
    exact end_nT (q := nx) (t := 0) (B := none) (m := 0) (d := 0) (A := none) (n := 0) (c := 0) (ro := false) (w := .int .i64 e) (by first | (simp only [↓gaW, ↓gaV, ↓gaC, ↓gaN, gaP, Nat.reduceEqDiff, Nat.reduceLeDiff, Nat.reduceAdd, Nat.reduceSub, Nat.reduceMul, Int.reduceLT, Int.reduceLE, Int.reduceEq, Int.reduceToNat, Int.reduceAdd, Int.reduceSub, Int.reduceMul, reduceCtorEq, ↓reduceIte]; done) | (simp only [↓gaW, ↓gaV, ↓gaC, ↓gaN, gaP, Nat.reduceEqDiff, Nat.reduceLeDiff, Nat.reduceAdd, Nat.reduceSub, Nat.reduceMul, Int.reduceLT, Int.reduceLE, Int.reduceEq, Int.reduceToNat, Int.reduceAdd, Int.reduceSub, Int.reduceMul, reduceCtorEq, ↓reduceIte]; rfl)) (by first | (simp only [↓gaW, ↓gaV, ↓gaC, ↓gaN, gaP, Nat.reduceEqDiff, Nat.reduceLeDiff, Nat.reduceAdd, Nat.reduceSub, Nat.reduceMul, Int.reduceLT, Int.reduceLE, Int.reduceEq, Int.reduceToNat, Int.reduceAdd, Int.reduceSub, Int.reduceMul, reduceCtorEq, ↓reduceIte]; done) | (simp only [↓gaW, ↓gaV, ↓gaC, ↓gaN, gaP, Nat.reduceEqDiff, Nat.reduceLeDiff, Nat.reduceAdd, Nat.reduceSub, Nat.reduceMul, Int.reduceLT, Int.reduceLE, Int.reduceEq, Int.reduceToNat, Int.reduceAdd, Int.reduceSub, Int.reduceMul, reduceCtorEq, ↓reduceIte]; rfl)) (by simp only [upd_e, if_true]) (by omega) (fun p hp => by rw [ext _ p (by omega), F1 p hp]) ⟨rfl, he⟩
  | ok y =>
    rw [hr] at hC
    obtain ⟨u, rfl, B, m, d, A, n, c, ks, rfl, hN⟩ := hC
    simp only [↓gaW, ↓gaV, ↓gaC, ↓gaN, gaP, Nat.reduceEqDiff, Nat.reduceLeDiff, Nat.reduceAdd, Nat.reduceSub, Nat.reduceMul, Int.reduceLT, Int.reduceLE, Int.reduceEq, Int.reduceToNat, Int.reduceAdd, Int.reduceSub, Int.reduceMul, reduceCtorEq, ↓reduceIte, List.getD_cons_zero, List.getD_cons_succ, fillL, splice, List.take_zero, List.drop_zero, List.drop_succ_cons, List.take_succ_cons, List.drop_nil, List.take_nil, hb1]
    repeat refine And.intro (by omega) ?_
    refine And.intro (node_cells _ _ _ _ _ _ _) ?_
    exact end_nT (q := nx) (t := y.t) (B := B) (m := m) (d := d) (A := A) (n := n) (c := c) (ro := false) (w := .int .i64 0) (by first | (simp only [↓gaW, ↓gaV, ↓gaC, ↓gaN, gaP, Nat.reduceEqDiff, Nat.reduceLeDiff, Nat.reduceAdd, Nat.reduceSub, Nat.reduceMul, Int.reduceLT, Int.reduceLE, Int.reduceEq, Int.reduceToNat, Int.reduceAdd, Int.reduceSub, Int.reduceMul, reduceCtorEq, ↓reduceIte]; done) | (simp only [↓gaW, ↓gaV, ↓gaC, ↓gaN, gaP, Nat.reduceEqDiff, Nat.reduceLeDiff, Nat.reduceAdd, Nat.reduceSub, Nat.reduceMul, Int.reduceLT, Int.reduceLE, Int.reduceEq, Int.reduceToNat, Int.reduceAdd, Int.reduceSub, Int.reduceMul, reduceCtorEq, ↓reduceIte]; rfl)) (by first | (simp only [↓gaW, ↓gaV, ↓gaC, ↓gaN, gaP, Nat.reduceEqDiff, Nat.reduceLeDiff, Nat.reduceAdd, Nat.reduceSub, Nat.reduceMul, Int.reduceLT, Int.reduceLE, Int.reduceEq, Int.reduceToNat, Int.reduceAdd, Int.reduceSub, Int.reduceMul, reduceCtorEq, ↓reduceIte]; done) | (simp only [↓gaW, ↓gaV, ↓gaC, ↓gaN, gaP, Nat.reduceEqDiff, Nat.reduceLeDiff, Nat.reduceAdd, Nat.reduceSub, Nat.reduceMul, Int.reduceLT, Int.reduceLE, Int.reduceEq, Int.reduceToNat, Int.reduceAdd, Int.reduceSub, Int.reduceMul, reduceCtorEq, ↓reduceIte]; rfl)) (by simp only [upd_e, if_true]) (by omega) (fun p hp => by rw [ext _ p (by omega), F1 p hp]) ⟨_, rfl, B, m, d, A, n, c, ks, rfl, (hN.keep (Nat.le_refl _) fun p hp _ => ext _ p (by omega)).wid (by omega)⟩
theorem ct_Of {x : Fo.El} {B : Option Addr} {m d : Nat} {A : Option Addr} {n c : Nat} {ks : List Value} (h : NdR nx gt x B m d A n c ks) (hxw : x.f.ws < 900000) :
    Ct Tryd.prog 22 [nodeV x.t B m d A n c] nx gt fun v x' g => OErr x' g v (ofR x) := by
  refine Ct.of hmx r_scalar_Of (by simp [c_scalar_Of]) fun b hb => ?_
  have hF : ∀ q, q < nx → upd gt nx (some (.cells (nodeL x.t B m d A n c) false)) q = gt q := fun q hq => by simp only [upd_e]; rw [if_neg (by omega)]
  have hb0 : upd gt nx (some (.cells (nodeL x.t B m d A n c) false)) nx = some (.cells (nodeL x.t B m d A n c) false) := by simp only [upd_e, if_true]
  have xw : x.f.ws = 1 + x.b.length + x.k.ws := by simp only [Fo.El.f, Fo.ws]; omega
  have lw := Fo.len_ws x.k
  have hl := h.blen
  have hkl := h.len
  cases hxb : x.b with
  | nil =>
    have hm0 : m = 0 := by rw [← hl, hxb]; rfl
    have hm : (m : Int) = 0 := by omega
    have er : ofR x = ([], 0, 2) := if_neg fun hc => hc.1 hxb
    simp only [c_scalar_Of, ↓gaW, ↓gaV, ↓gaC, ↓gaN, gaP, Nat.reduceEqDiff, Nat.reduceLeDiff, Nat.reduceAdd, Nat.reduceSub, Nat.reduceMul, Int.reduceLT, Int.reduceLE, Int.reduceEq, Int.reduceToNat, Int.reduceAdd, Int.reduceSub, Int.reduceMul, reduceCtorEq, ↓reduceIte, gaE, implies_true, Nat.le_refl, Int.sub_zero, Nat.sub_zero, Int.le_refl, true_or, or_true, List.getD_cons_zero, List.getD_cons_succ, fillL, splice, List.take_zero, List.drop_zero, List.drop_succ_cons, List.take_succ_cons, List.drop_nil, List.take_nil, gaU, hm, decide_true, er]
    repeat refine And.intro (by omega) ?_
    exact ⟨hF, _, rfl, .nil⟩
  | cons a t =>
    have hm : ¬ (m : Int) = 0 := by rw [hxb, List.length_cons] at hl; omega
    have hm' : 0 < m := by omega
    obtain ⟨a', cl, ro, e1, r2, r3, r4, r5⟩ := h.body.cells hm'
    subst e1
    have c0 : cl.getD a'.off undef = .int .u8 (a.toNat : Nat) := by
      have := r5 0 (by omega)
      rw [Nat.add_zero] at this
      rw [this, hxb]; rfl
    have hqn : (a'.block = nx) = False := by simp; omega
    have im1 : ((m : Int) - 1).toNat = m - 1 := by omega
    have hmd := h.md
    have id1 : ((d : Int) - 1).toNat = d - 1 := by omega
    have hspot := h.body.spot a' rfl
    have htl : t.length = m - 1 := by rw [hxb, List.length_cons] at hl; omega
    have ht := h.body.part (lo := 1) (hi := m) (by omega) (Nat.le_refl _) rfl
    have et : ((x.b.map u8V).drop 1).take (m - 1) = t.map u8V := by rw [hxb, ← htl]; simp [List.take_of_length_le]
    rw [et] at ht
    simp only [c_scalar_Of, ↓gaW, ↓gaV, ↓gaC, ↓gaN, gaP, Nat.reduceEqDiff, Nat.reduceLeDiff, Nat.reduceAdd, Nat.reduceSub, Nat.reduceMul, Int.reduceLT, Int.reduceLE, Int.reduceEq, Int.reduceToNat, Int.reduceAdd, Int.reduceSub, Int.reduceMul, reduceCtorEq, ↓reduceIte, List.getD_cons_zero, List.getD_cons_succ, fillL, splice, List.take_zero, List.drop_zero, List.drop_succ_cons, List.take_succ_cons, List.drop_nil, List.take_nil, gaU, hm, decide_false, im1, id1]
    generalize upd gt nx (some (.cells (nodeL x.t (some a') m d A n c) false)) = g0 at *
    repeat refine And.intro (by omega) ?_
    refine And.intro (by rcases hspot with h | h <;> simp [h]) ?_
    have h0 := h.keep (x' := nx + 1) (by omega) hF
    refine callK_of (ct_Clone (ht.keep (nx' := nx + 1) (by omega) hF) (by omega) (by omega)) (fun v x1 g1 l1 k1 hC => ?_) (by omega)
    obtain ⟨A2, n2, c2, rfl, hc2, hl2, rr2⟩ := hC
    have r2' := rr2.1
    have F1 : ∀ p, p < nx → g1 p = gt p := fun p hp => by rw [k1 p (by omega), hF p hp]
    have hb1 : g1 nx = some (.cells (nodeL x.t (some a') m d A n c) false) := by rw [k1 nx (by omega), hb0]
    have hx1 : (nx = x1) = False := by simp; omega
    have hx2 : (nx = x1 + 1) = False := by simp; omega
    have hx3 : (x1 = x1 + 1) = False := by simp
    have ha1 : (a'.block = x1) = False := by simp; omega
    have ha2 : (a'.block = x1 + 1) = False := by simp; omega
    have hga : g1 a'.block = some (.cells cl ro) := by rw [F1 _ r2, r3]
    have ha256 := a.toNat_lt
    obtain ⟨many, hmany⟩ : ∃ many : Int, many = 8 * (t.length : Int) - (a.toNat : Int) := ⟨_, rfl⟩
    have i1 : IntKind.i64.wrap (IntKind.i64.wrap (8 * (n2 : Int)) - IntKind.i64.wrap ((a.toNat : Nat) : Int)) = many := by rw [i64_w (8 * (n2 : Int)) (by omega), i64_w ((a.toNat : Nat) : Int) (by omega), i64_w _ (by omega)]; omega
    simp only [↓gaW, ↓gaV, ↓gaC, ↓gaN, gaP, Nat.reduceEqDiff, Nat.reduceLeDiff, Nat.reduceAdd, Nat.reduceSub, Nat.reduceMul, Int.reduceLT, Int.reduceLE, Int.reduceEq, Int.reduceToNat, Int.reduceAdd, Int.reduceSub, Int.reduceMul, reduceCtorEq, ↓reduceIte, List.getD_cons_zero, List.getD_cons_succ, fillL, splice, List.take_zero, List.drop_zero, List.drop_succ_cons, List.take_succ_cons, List.drop_nil, List.take_nil, gaU, hx1, hx2, hx3, hb1, hga, c0, ha1, ha2, nodeL, List.getD_cons_succ, List.getD_cons_zero, i1]
    repeat refine And.intro (by omega) ?_
    refine And.intro (all1 rfl) ?_
    repeat refine And.intro (by omega) ?_
    refine And.intro (all1 rfl) ?_
    repeat refine And.intro (by omega) ?_
    obtain ⟨g2, e2⟩ : ∃ g', g' = upd (upd (upd (upd g1 x1 (some (.cells [Value.slice none 0 0] false))) x1 (some (.cells [Value.slice A2 n2 c2] false))) (x1 + 1) (some (.cells [Value.int .i64 0] false))) (x1 + 1) (some (.cells [Value.int .i64 many] false)) := ⟨_, rfl⟩
    have G2 : ∀ p, p < x1 → g2 p = g1 p := fun p hp => by rw [e2]; simp only [upd_e]; rw [if_neg (by omega), if_neg (by omega), if_neg (by omega), if_neg (by omega)]
    have hbA : g2 x1 = some (.cells [Value.slice A2 n2 c2] false) := by rw [e2, upd_e, if_neg (by omega), upd_e, if_neg (by omega), upd_e, if_pos rfl]
    have hbB : g2 (x1 + 1) = some (.cells [Value.int .i64 many] false) := by rw [e2]; simp only [upd_e, if_true]
    rw [← e2]; clear e2
    have hN2 := h.keep (x' := x1 + 1 + 1) (g := g2) (by omega) fun p hp => by rw [G2 p (by omega), F1 p hp]
    have rA2 := r2'.keep (nx' := x1 + 1 + 1) (gt' := g2) (by omega) G2
    refine callK_of (ct_justB (r := bitsR t many) hN2 (by omega) (fun y' hy' => by have := bitsR_ws hy'; omega) (fun nx' g h1 h2 => ct_Of1 (q := x1) (q2 := x1 + 1) (by omega) (by rw [h2 x1 (by omega), hbA]) (by omega) (by rw [h2 (x1 + 1) (by omega), hbB]) (rA2.keep h1 h2) hc2 (by omega) (by omega))) (fun v x4 g4 l4 k4 hC => ?_) (by omega)
    obtain ⟨bb, hbb, rfl⟩ := hC
    have F4 : ∀ p, p < nx → g4 p = gt p := fun p hp => by rw [k4 p (by omega), G2 p (by omega), F1 p hp]
    have hj : justP true x (bitsR t many) ↔ bitsR t many = .ok x := by
      unfold justP
      constructor
      · rintro ⟨_, z, h2, h3⟩
        rw [h2, (alike_eq (bitsR_k h2)).1 h3]
      · intro h2
        exact ⟨rfl, x, h2, (alike_eq (bitsR_k h2)).2 rfl⟩
    have hb4 : g4 x1 = some (.cells [Value.slice A2 n2 c2] false) := by rw [k4 x1 (by omega), hbA]
    have hb5 : g4 (x1 + 1) = some (.cells [Value.int .i64 many] false) := by rw [k4 (x1 + 1) (by omega), hbB]
    have hx4 : (x1 + 1 = x1) = False := by simp
    have eo : x.b ≠ [] ∧ bitsR x.b.tail (8 * (x.b.tail.length : Int) - (x.b.headD 0).toNat) = .ok x ↔ bitsR t many = .ok x := by
      rw [hxb, hmany]
      exact ⟨fun h => h.2, fun h => ⟨by simp, h⟩⟩
    cases bb with
    | true =>
      have er : ofR x = (t, many, 0) := by
        unfold ofR
        rw [if_pos (eo.2 (hj.1 (hbb.1 rfl))), hxb, hmany]; rfl
      simp only [↓gaW, ↓gaV, ↓gaC, ↓gaN, gaP, Nat.reduceEqDiff, Nat.reduceLeDiff, Nat.reduceAdd, Nat.reduceSub, Nat.reduceMul, Int.reduceLT, Int.reduceLE, Int.reduceEq, Int.reduceToNat, Int.reduceAdd, Int.reduceSub, Int.reduceMul, reduceCtorEq, ↓reduceIte, gaE, implies_true, Nat.le_refl, Int.sub_zero, Nat.sub_zero, Int.le_refl, true_or, or_true, List.getD_cons_zero, List.getD_cons_succ, fillL, splice, List.take_zero, List.drop_zero, List.drop_succ_cons, List.take_succ_cons, List.drop_nil, List.take_nil, er, if_true, hb4, hb5, hx4]
      repeat refine And.intro (by omega) ?_
      refine And.intro (all1 rfl) ?_
      repeat refine And.intro (by omega) ?_
      have ext : ∀ (cs : List Value), (∀ p, p < x1 → upd g4 x1 (some (.cells cs false)) p = g4 p) := fun cs p hp => by simp only [upd_e]; rw [if_neg (by omega)]
      refine ⟨fun p hp => by rw [if_neg (by omega), F4 p hp], _, rfl, A2, n2, c2, rfl, hc2, hl2, ?_⟩
      have rA4 := (r2'.keep (Nat.le_refl _) (gt' := g4) fun p hp => by rw [k4 p (by omega), G2 p hp])
      exact rA4.keep (by omega) (ext _)
    | false =>
      have er : ofR x = ([], 0, 2) := if_neg fun hc => by have := hbb.2 (hj.2 (eo.1 hc)); cases this
      simp only [↓gaW, ↓gaV, ↓gaC, ↓gaN, gaP, Nat.reduceEqDiff, Nat.reduceLeDiff, Nat.reduceAdd, Nat.reduceSub, Nat.reduceMul, Int.reduceLT, Int.reduceLE, Int.reduceEq, Int.reduceToNat, Int.reduceAdd, Int.reduceSub, Int.reduceMul, reduceCtorEq, ↓reduceIte, gaE, implies_true, Nat.le_refl, Int.sub_zero, Nat.sub_zero, Int.le_refl, true_or, or_true, List.getD_cons_zero, List.getD_cons_succ, fillL, splice, List.take_zero, List.drop_zero, List.drop_succ_cons, List.take_succ_cons, List.drop_nil, List.take_nil, er, Bool.false_eq_true, if_false, hb4, hb5, hx4]
      repeat refine And.intro (by omega) ?_
      refine And.intro (all1 rfl) ?_
      repeat refine And.intro (by omega) ?_
      exact ⟨fun p hp => by rw [if_neg (by omega), F4 p hp], _, rfl, .nil⟩
end
end Go.Ga

/- The document's bits; the law ScalarBits. -/
namespace Go.Ga
open Go Go.Proofs
set_option linter.unusedSimpArgs false
set_option linter.unusedVariables false
set_option maxRecDepth 100000
attribute [local irreducible] appendK

section
variable {nx : Nat} {gt : Nat → Option Blk}

end
end Go.Ga

/- The law ScalarBits. -/
namespace Go.Ga
open Go Go.Proofs
set_option linter.unusedSimpArgs false
set_option linter.unusedVariables false
set_option maxRecDepth 100000
attribute [local irreducible] appendK

def nodeOf : Except Nat Fo.El → Fo.El
  | .ok y => y
  | .error _ => ⟨0, [], .nil⟩
def errOf : Except Nat Fo.El → Nat
  | .ok _ => 0
  | .error e => e
theorem NErr.any {lo nx : Nat} {g : Nat → Option Blk} {v : Value} {r : Except Nat Fo.El} (h : NErr lo nx g v r) : ∃ (B : Option Addr) (m d : Nat) (A : Option Addr) (n c : Nat) (ks : List Value), v = .tuple #[nodeV (nodeOf r).t B m d A n c, .int .i64 (errOf r : Nat)] ∧ NdL lo nx g (nodeOf r) B m d A n c ks := by
  cases r with
  | error e => exact ⟨none, 0, 0, none, 0, 0, [], h.1, NdL.zero⟩
  | ok y =>
    obtain ⟨u, rfl, B, m, d, A, n, c, ks, rfl, hN⟩ := h
    exact ⟨B, m, d, A, n, c, ks, rfl, hN⟩
theorem bits_nws {l : List UInt8} {many : Int} : (nodeOf (bitsR l many)).f.ws ≤ l.length + 2 := by
  cases h : bitsR l many with
  | error e => show 1 + 0 + 0 + 0 ≤ _; omega
  | ok y => exact bitsR_ws h

section
variable {nx : Nat} {gt : Nat → Option Blk}


end
end Go.Ga

namespace Go.Ga
open Go Go.Proofs
set_option maxRecDepth 100000

def c_scalar_Text : RFn :=
  ⟨29,
  (.seq
  (.ops [] [
  ⟨(some 2), (.op (.new [(.int .i64 0), (.slice none 0 0), (.slice none 0 0)])), none⟩,
  ⟨(some 3), (.op (.mv (.k (.int .i64 0)))), none⟩])
  (.seq
  (.seq
  (.ops [] [
  ⟨(some 5), (.op (.mv (.t 0))), none⟩,
  ⟨(some 6), (.op (.lenStr (.t 5))), none⟩,
  ⟨(some 7), (.op (.bin .gtr (.t 6) (.k (.int .i64 200)))), none⟩])
  (.cond (.t 7)
  (.seq
  (.ops [] [
  ⟨(some 8), (.op (.build [(.int .i64 0), (.slice none 0 0), (.slice none 0 0)] [])), none⟩,
  ⟨none, (.op (.store 3 (.t 2) (.t 8))), none⟩,
  ⟨(some 3), (.op (.mv (.k (.int .i64 1)))), none⟩])
  .ret)
  .skip))
  (.seq
  (.seq
  (.ops [] [
  ⟨(some 9), (.op (.mv (.t 0))), none⟩,
  ⟨(some 10), (.op (.lenStr (.t 9))), none⟩,
  ⟨(some 11), (.op (.mv (.k (.int .i64 0)))), none⟩])
  (.block 0
  (.loop
  (.seq
  (.ops [] [
  ⟨(some 12), (.op (.bin .lss (.t 11) (.t 10))), none⟩])
  (.seq
  (.cond (.t 12)
  .skip
  (.exit 0))
  (.seq
  (.block 1
  (.seq
  (.ops [] [
  ⟨(some 13), (.op (.mv (.t 11))), none⟩,
  ⟨(some 4), (.op (.mv (.t 13))), none⟩])
  (.seq
  (.ops [] [
  ⟨(some 14), (.op (.mv (.t 0))), none⟩,
  ⟨(some 15), (.op (.mv (.t 4))), none⟩,
  ⟨(some 16), (.op (.ixStr (.t 14) (.t 15))), none⟩,
  ⟨(some 17), (.op (.bin .lss (.t 16) (.k (.int .u8 32)))), none⟩,
  ⟨(some 18), (.op (.mv (.t 17))), none⟩,
  ⟨(some 19), (.op (.mv (.t 0))), (some (18, false))⟩,
  ⟨(some 20), (.op (.mv (.t 4))), (some (18, false))⟩,
  ⟨(some 21), (.op (.ixStr (.t 19) (.t 20))), (some (18, false))⟩,
  ⟨(some 22), (.op (.bin .gtr (.t 21) (.k (.int .u8 126)))), (some (18, false))⟩,
  ⟨(some 23), (.op (.pick (.t 18) (.k (.bool true)) (.t 22))), none⟩])
  (.cond (.t 23)
  (.seq
  (.ops [] [
  ⟨(some 24), (.op (.build [(.int .i64 0), (.slice none 0 0), (.slice none 0 0)] [])), none⟩,
  ⟨none, (.op (.store 3 (.t 2) (.t 24))), none⟩,
  ⟨(some 3), (.op (.mv (.k (.int .i64 1)))), none⟩])
  .ret)
  .skip))))
  (.ops [] [
  ⟨(some 25), (.op (.bin .add (.t 11) (.k (.int .i64 1)))), none⟩,
  ⟨(some 11), (.op (.mv (.t 25))), none⟩])))))))
  (.seq
  (.ops [] [
  ⟨(some 26), (.op (.mv (.t 0))), none⟩,
  ⟨(some 27), (.op (.s2b (.t 26))), none⟩,
  ⟨(some 28), (.op (.build [(.int .i64 0), (.slice none 0 0), (.slice none 0 0)] [(0, (1, (.k (.int .i64 22)))), (1, (1, (.t 27)))])), none⟩,
  ⟨none, (.op (.store 3 (.t 2) (.t 28))), none⟩,
  ⟨(some 3), (.op (.mv (.k (.int .i64 0)))), none⟩])
  .ret)))),
  [(.cN 2 3), (.t 3)]⟩
theorem r_scalar_Text : resolveFn Tryd.prog 33 = some c_scalar_Text := by kernel_rfl

def c_lanyardref05_Text : RFn :=
  ⟨30,
  (.seq
  (.ops [] [
  ⟨(some 2), (.op (.new [(.int .i64 0), (.slice none 0 0), (.slice none 0 0)])), none⟩,
  ⟨(some 3), (.op (.mv (.k (.int .i64 0)))), none⟩])
  (.seq
  (.seq
  (.ops [] [
  ⟨(some 4), (.op (.mv (.k (.int .i64 0)))), none⟩])
  (.block 0
  (.loop
  (.seq
  (.seq
  (.ops [] [
  ⟨(some 5), (.op (.mv (.t 4))), none⟩,
  ⟨(some 6), (.op (.mv (.t 0))), none⟩,
  ⟨(some 7), (.op (.lenStr (.t 6))), none⟩,
  ⟨(some 8), (.op (.bin .lss (.t 5) (.t 7))), none⟩])
  (.cond (.t 8)
  .skip
  (.exit 0)))
  (.seq
  (.block 1
  (.seq
  (.ops [] [
  ⟨(some 11), (.op (.mv (.t 0))), none⟩,
  ⟨(some 12), (.op (.mv (.t 4))), none⟩,
  ⟨(some 13), (.op (.ixStr (.t 11) (.t 12))), none⟩,
  ⟨(some 14), (.op (.bin .lss (.t 13) (.k (.int .u8 32)))), none⟩,
  ⟨(some 15), (.op (.mv (.t 14))), none⟩,
  ⟨(some 16), (.op (.mv (.t 0))), (some (15, false))⟩,
  ⟨(some 17), (.op (.mv (.t 4))), (some (15, false))⟩,
  ⟨(some 18), (.op (.ixStr (.t 16) (.t 17))), (some (15, false))⟩,
  ⟨(some 19), (.op (.bin .gtr (.t 18) (.k (.int .u8 126)))), (some (15, false))⟩,
  ⟨(some 20), (.op (.pick (.t 15) (.k (.bool true)) (.t 19))), none⟩,
  ⟨(some 21), (.op (.mv (.t 20))), none⟩,
  ⟨(some 22), (.op (.mv (.t 0))), (some (21, false))⟩,
  ⟨(some 23), (.op (.lenStr (.t 22))), (some (21, false))⟩,
  ⟨(some 24), (.op (.bin .gtr (.t 23) (.k (.int .i64 200)))), (some (21, false))⟩,
  ⟨(some 25), (.op (.pick (.t 21) (.k (.bool true)) (.t 24))), none⟩])
  (.cond (.t 25)
  (.seq
  (.ops [] [
  ⟨(some 26), (.op (.build [(.int .i64 0), (.slice none 0 0), (.slice none 0 0)] [])), none⟩,
  ⟨none, (.op (.store 3 (.t 2) (.t 26))), none⟩,
  ⟨(some 3), (.op (.mv (.k (.int .i64 1)))), none⟩])
  .ret)
  .skip)))
  (.ops [] [
  ⟨(some 9), (.op (.mv (.t 4))), none⟩,
  ⟨(some 10), (.op (.bin .add (.t 9) (.k (.int .i64 1)))), none⟩,
  ⟨(some 4), (.op (.mv (.t 10))), none⟩]))))))
  (.seq
  (.ops [] [
  ⟨(some 27), (.op (.mv (.t 0))), none⟩,
  ⟨(some 28), (.op (.s2b (.t 27))), none⟩,
  ⟨(some 29), (.op (.build [(.int .i64 0), (.slice none 0 0), (.slice none 0 0)] [(0, (1, (.k (.int .i64 22)))), (1, (1, (.t 28)))])), none⟩,
  ⟨none, (.op (.store 3 (.t 2) (.t 29))), none⟩,
  ⟨(some 3), (.op (.mv (.k (.int .i64 0)))), none⟩])
  .ret))),
  [(.cN 2 3), (.t 3)]⟩
def c_scalar_Words : RFn :=
  ⟨14,
  (.seq
  (.ops [] [
  ⟨(some 1), (.op (.box (.t 0))), none⟩,
  ⟨(some 2), (.op (.mv (.k (.string ⟨#[]⟩)))), none⟩,
  ⟨(some 3), (.op (.mv (.k (.int .i64 0)))), none⟩])
  (.seq
  (.ops [] [
  ⟨(some 5), (.op (.fieldAddr 1 (.t 1))), none⟩,
  ⟨(some 6), (.op (.load1 (.t 5))), none⟩,
  ⟨(some 7), (.op (.b2s (.t 6))), none⟩,
  ⟨(some 4), (.op (.new [(.string ⟨#[]⟩)])), none⟩,
  ⟨none, (.op (.store 1 (.t 4) (.t 7))), none⟩])
  (.seq
  (.ops [] [
  ⟨(some 8), (.op (.load1 (.t 4))), none⟩,
  ⟨(some 9), (.op (.loadN 3 (.t 1))), none⟩,
  ⟨(some 10), (.op (.func 62 [(.t 4)])), none⟩,
  ⟨(some 11), (.call (.k (.func (.func 61) #[] #[])) [(.t 8), (.k (.bool true)), (.t 9), (.t 10)]), none⟩,
  ⟨(some 12), (.op (.extract (.t 11) 0)), none⟩,
  ⟨(some 13), (.op (.extract (.t 11) 1)), none⟩,
  ⟨(some 2), (.op (.mv (.t 12))), none⟩,
  ⟨(some 3), (.op (.mv (.t 13))), none⟩])
  .ret))),
  [(.t 2), (.t 3)]⟩
theorem r_scalar_Words : resolveFn Tryd.prog 35 = some c_scalar_Words := by kernel_rfl

def c_lanyardref05_Words : RFn :=
  ⟨24,
  (.seq
  (.ops [] [
  ⟨(some 1), (.op (.box (.t 0))), none⟩,
  ⟨(some 2), (.op (.mv (.k (.string ⟨#[]⟩)))), none⟩,
  ⟨(some 3), (.op (.mv (.k (.int .i64 0)))), none⟩])
  (.seq
  (.ops [] [
  ⟨(some 7), (.op (.fieldAddr 1 (.t 1))), none⟩,
  ⟨(some 8), (.op (.load1 (.t 7))), none⟩,
  ⟨(some 9), (.op (.b2s (.t 8))), none⟩,
  ⟨(some 10), (.call (.k (.func (.func 34) #[] #[])) [(.t 9)]), none⟩,
  ⟨(some 6), (.op (.mv (.t 10))), none⟩,
  ⟨(some 11), (.op (.extract (.t 6) 0)), none⟩,
  ⟨(some 12), (.op (.extract (.t 6) 1)), none⟩,
  ⟨(some 4), (.op (.new [(.int .i64 0), (.slice none 0 0), (.slice none 0 0)])), none⟩,
  ⟨none, (.op (.store 3 (.t 4) (.t 11))), none⟩,
  ⟨(some 5), (.op (.mv (.t 12))), none⟩])
  (.seq
  (.seq
  (.ops [] [
  ⟨(some 13), (.op (.mv (.t 5))), none⟩,
  ⟨(some 14), (.op (.bin .neq (.t 13) (.k (.int .i64 0)))), none⟩,
  ⟨(some 15), (.op (.mv (.t 14))), none⟩,
  ⟨(some 16), (.op (.loadN 3 (.t 4))), (some (15, false))⟩,
  ⟨(some 17), (.op (.loadN 3 (.t 1))), (some (15, false))⟩,
  ⟨(some 18), (.call (.k (.func (.func 11) #[] #[])) [(.t 16), (.t 17)]), (some (15, false))⟩,
  ⟨(some 19), (.op (.un .not (.t 18))), (some (15, false))⟩,
  ⟨(some 20), (.op (.pick (.t 15) (.k (.bool true)) (.t 19))), none⟩])
  (.cond (.t 20)
  (.seq
  (.ops [] [
  ⟨(some 2), (.op (.mv (.k (.string ⟨#[]⟩)))), none⟩,
  ⟨(some 3), (.op (.mv (.k (.int .i64 2)))), none⟩])
  .ret)
  .skip))
  (.seq
  (.ops [] [
  ⟨(some 21), (.op (.fieldAddr 1 (.t 1))), none⟩,
  ⟨(some 22), (.op (.load1 (.t 21))), none⟩,
  ⟨(some 23), (.op (.b2s (.t 22))), none⟩,
  ⟨(some 2), (.op (.mv (.t 23))), none⟩,
  ⟨(some 3), (.op (.mv (.k (.int .i64 0)))), none⟩])
  .ret)))),
  [(.t 2), (.t 3)]⟩
def c_scalar_Words_1 : RFn :=
  ⟨7,
  (.seq
  (.ops [] [
  ⟨(some 1), (.op (.new [(.int .i64 0), (.slice none 0 0), (.slice none 0 0)])), none⟩,
  ⟨(some 2), (.op (.mv (.k (.int .i64 0)))), none⟩])
  (.seq
  (.ops [] [
  ⟨(some 3), (.op (.load1 (.t 0))), none⟩,
  ⟨(some 4), (.call (.k (.func (.func 33) #[] #[])) [(.t 3)]), none⟩,
  ⟨(some 5), (.op (.extract (.t 4) 0)), none⟩,
  ⟨(some 6), (.op (.extract (.t 4) 1)), none⟩,
  ⟨none, (.op (.store 3 (.t 1) (.t 5))), none⟩,
  ⟨(some 2), (.op (.mv (.t 6))), none⟩])
  .ret)),
  [(.cN 1 3), (.t 2)]⟩
theorem r_scalar_Words_1 : resolveFn Tryd.prog 62 = some c_scalar_Words_1 := by kernel_rfl

def c_scalar_Time : RFn :=
  ⟨25,
  (.seq
  (.ops [] [
  ⟨(some 2), (.op (.new [(.int .i64 0), (.slice none 0 0), (.slice none 0 0)])), none⟩,
  ⟨(some 3), (.op (.mv (.k (.int .i64 0)))), none⟩])
  (.seq
  (.ops [] [
  ⟨(some 7), (.op (.mv (.t 0))), none⟩,
  ⟨(some 8), (.call (.k (.func (.func 63) #[] #[])) [(.t 7)]), none⟩,
  ⟨(some 6), (.op (.mv (.t 8))), none⟩,
  ⟨(some 9), (.op (.extract (.t 6) 0)), none⟩,
  ⟨(some 10), (.op (.extract (.t 6) 1)), none⟩,
  ⟨(some 4), (.op (.mv (.t 9))), none⟩,
  ⟨(some 5), (.op (.mv (.t 10))), none⟩])
  (.seq
  (.block 0
  (.seq
  (.ops [] [
  ⟨(some 12), (.op (.mv (.t 5))), none⟩,
  ⟨(some 13), (.op (.un .not (.t 12))), none⟩,
  ⟨(some 11), (.op (.mv (.t 13))), none⟩])
  (.cond (.t 11)
  (.seq
  (.ops [] [
  ⟨(some 14), (.op (.build [(.int .i64 0), (.slice none 0 0), (.slice none 0 0)] [])), none⟩,
  ⟨none, (.op (.store 3 (.t 2) (.t 14))), none⟩,
  ⟨(some 3), (.op (.mv (.k (.int .i64 1)))), none⟩])
  .ret)
  (.seq
  (.ops [] [
  ⟨(some 16), (.op (.mv (.t 4))), none⟩,
  ⟨(some 17), (.op (.lenStr (.t 16))), none⟩,
  ⟨(some 18), (.op (.bin .eql (.t 17) (.k (.int .i64 13)))), none⟩,
  ⟨(some 15), (.op (.mv (.t 18))), none⟩])
  (.cond (.t 15)
  (.seq
  (.ops [] [
  ⟨(some 19), (.op (.mv (.t 4))), none⟩,
  ⟨(some 20), (.op (.s2b (.t 19))), none⟩,
  ⟨(some 21), (.op (.build [(.int .i64 0), (.slice none 0 0), (.slice none 0 0)] [(0, (1, (.k (.int .i64 23)))), (1, (1, (.t 20)))])), none⟩,
  ⟨none, (.op (.store 3 (.t 2) (.t 21))), none⟩,
  ⟨(some 3), (.op (.mv (.k (.int .i64 0)))), none⟩])
  .ret)
  .skip)))))
  (.seq
  (.ops [] [
  ⟨(some 22), (.op (.mv (.t 4))), none⟩,
  ⟨(some 23), (.op (.s2b (.t 22))), none⟩,
  ⟨(some 24), (.op (.build [(.int .i64 0), (.slice none 0 0), (.slice none 0 0)] [(0, (1, (.k (.int .i64 24)))), (1, (1, (.t 23)))])), none⟩,
  ⟨none, (.op (.store 3 (.t 2) (.t 24))), none⟩,
  ⟨(some 3), (.op (.mv (.k (.int .i64 0)))), none⟩])
  .ret)))),
  [(.cN 2 3), (.t 3)]⟩
theorem r_scalar_Time : resolveFn Tryd.prog 37 = some c_scalar_Time := by kernel_rfl

def c_lanyardref05_Time : RFn :=
  ⟨22,
  (.seq
  (.ops [] [
  ⟨(some 2), (.op (.new [(.int .i64 0), (.slice none 0 0), (.slice none 0 0)])), none⟩,
  ⟨(some 3), (.op (.mv (.k (.int .i64 0)))), none⟩])
  (.seq
  (.ops [] [
  ⟨(some 8), (.op (.mv (.t 0))), none⟩,
  ⟨(some 9), (.call (.k (.func (.func 64) #[] #[])) [(.t 8)]), none⟩,
  ⟨(some 7), (.op (.mv (.t 9))), none⟩,
  ⟨(some 10), (.op (.extract (.t 7) 0)), none⟩,
  ⟨(some 11), (.op (.extract (.t 7) 1)), none⟩,
  ⟨(some 4), (.op (.mv (.t 10))), none⟩,
  ⟨(some 5), (.op (.mv (.t 11))), none⟩])
  (.seq
  (.seq
  (.ops [] [
  ⟨(some 12), (.op (.mv (.t 5))), none⟩,
  ⟨(some 13), (.op (.un .not (.t 12))), none⟩])
  (.cond (.t 13)
  (.seq
  (.ops [] [
  ⟨(some 14), (.op (.build [(.int .i64 0), (.slice none 0 0), (.slice none 0 0)] [])), none⟩,
  ⟨none, (.op (.store 3 (.t 2) (.t 14))), none⟩,
  ⟨(some 3), (.op (.mv (.k (.int .i64 1)))), none⟩])
  .ret)
  .skip))
  (.seq
  (.ops [] [
  ⟨(some 6), (.op (.mv (.k (.int .i64 23)))), none⟩])
  (.seq
  (.seq
  (.ops [] [
  ⟨(some 15), (.op (.mv (.t 4))), none⟩,
  ⟨(some 16), (.op (.lenStr (.t 15))), none⟩,
  ⟨(some 17), (.op (.bin .neq (.t 16) (.k (.int .i64 13)))), none⟩])
  (.cond (.t 17)
  (.ops [] [
  ⟨(some 6), (.op (.mv (.k (.int .i64 24)))), none⟩])
  .skip))
  (.seq
  (.ops [] [
  ⟨(some 18), (.op (.mv (.t 6))), none⟩,
  ⟨(some 19), (.op (.mv (.t 4))), none⟩,
  ⟨(some 20), (.op (.s2b (.t 19))), none⟩,
  ⟨(some 21), (.op (.build [(.int .i64 0), (.slice none 0 0), (.slice none 0 0)] [(0, (1, (.t 18))), (1, (1, (.t 20)))])), none⟩,
  ⟨none, (.op (.store 3 (.t 2) (.t 21))), none⟩,
  ⟨(some 3), (.op (.mv (.k (.int .i64 0)))), none⟩])
  .ret)))))),
  [(.cN 2 3), (.t 3)]⟩
def c_scalar_When : RFn :=
  ⟨23,
  (.seq
  (.ops [] [
  ⟨(some 1), (.op (.box (.t 0))), none⟩,
  ⟨(some 2), (.op (.mv (.k (.int .i64 0)))), none⟩,
  ⟨(some 3), (.op (.mv (.k (.int .i64 0)))), none⟩])
  (.seq
  (.ops [] [
  ⟨(some 7), (.op (.fieldAddr 1 (.t 1))), none⟩,
  ⟨(some 8), (.op (.load1 (.t 7))), none⟩,
  ⟨(some 9), (.op (.b2s (.t 8))), none⟩,
  ⟨(some 10), (.op (.fieldAddr 0 (.t 1))), none⟩,
  ⟨(some 11), (.op (.load1 (.t 10))), none⟩,
  ⟨(some 12), (.op (.bin .eql (.t 11) (.k (.int .i64 24)))), none⟩,
  ⟨(some 13), (.call (.k (.func (.func 65) #[] #[])) [(.t 9), (.t 12)]), none⟩,
  ⟨(some 6), (.op (.mv (.t 13))), none⟩,
  ⟨(some 14), (.op (.extract (.t 6) 0)), none⟩,
  ⟨(some 15), (.op (.extract (.t 6) 1)), none⟩,
  ⟨(some 4), (.op (.new [(.int .i64 0)])), none⟩,
  ⟨none, (.op (.store 1 (.t 4) (.t 14))), none⟩,
  ⟨(some 5), (.op (.mv (.t 15))), none⟩])
  (.seq
  (.ops [] [
  ⟨(some 16), (.op (.load1 (.t 4))), none⟩,
  ⟨(some 17), (.op (.mv (.t 5))), none⟩,
  ⟨(some 18), (.op (.loadN 3 (.t 1))), none⟩,
  ⟨(some 19), (.op (.func 67 [(.t 4)])), none⟩,
  ⟨(some 20), (.call (.k (.func (.func 66) #[] #[])) [(.t 16), (.t 17), (.t 18), (.t 19)]), none⟩,
  ⟨(some 21), (.op (.extract (.t 20) 0)), none⟩,
  ⟨(some 22), (.op (.extract (.t 20) 1)), none⟩,
  ⟨(some 2), (.op (.mv (.t 21))), none⟩,
  ⟨(some 3), (.op (.mv (.t 22))), none⟩])
  .ret))),
  [(.t 2), (.t 3)]⟩
theorem r_scalar_When : resolveFn Tryd.prog 39 = some c_scalar_When := by kernel_rfl

def c_lanyardref05_When : RFn :=
  ⟨36,
  (.seq
  (.ops [] [
  ⟨(some 1), (.op (.box (.t 0))), none⟩,
  ⟨(some 2), (.op (.mv (.k (.int .i64 0)))), none⟩,
  ⟨(some 3), (.op (.mv (.k (.int .i64 0)))), none⟩])
  (.seq
  (.ops [] [
  ⟨(some 9), (.op (.fieldAddr 1 (.t 1))), none⟩,
  ⟨(some 10), (.op (.load1 (.t 9))), none⟩,
  ⟨(some 11), (.op (.b2s (.t 10))), none⟩,
  ⟨(some 12), (.op (.fieldAddr 0 (.t 1))), none⟩,
  ⟨(some 13), (.op (.load1 (.t 12))), none⟩,
  ⟨(some 14), (.op (.bin .eql (.t 13) (.k (.int .i64 24)))), none⟩,
  ⟨(some 15), (.call (.k (.func (.func 68) #[] #[])) [(.t 11), (.t 14)]), none⟩,
  ⟨(some 8), (.op (.mv (.t 15))), none⟩,
  ⟨(some 16), (.op (.extract (.t 8) 0)), none⟩,
  ⟨(some 17), (.op (.extract (.t 8) 1)), none⟩,
  ⟨(some 4), (.op (.mv (.t 16))), none⟩,
  ⟨(some 5), (.op (.mv (.t 17))), none⟩])
  (.seq
  (.ops [] [
  ⟨(some 19), (.op (.mv (.t 4))), none⟩,
  ⟨(some 20), (.call (.k (.func (.func 38) #[] #[])) [(.t 19)]), none⟩,
  ⟨(some 18), (.op (.mv (.t 20))), none⟩,
  ⟨(some 21), (.op (.extract (.t 18) 0)), none⟩,
  ⟨(some 22), (.op (.extract (.t 18) 1)), none⟩,
  ⟨(some 6), (.op (.new [(.int .i64 0), (.slice none 0 0), (.slice none 0 0)])), none⟩,
  ⟨none, (.op (.store 3 (.t 6) (.t 21))), none⟩,
  ⟨(some 7), (.op (.mv (.t 22))), none⟩])
  (.seq
  (.seq
  (.ops [] [
  ⟨(some 23), (.op (.mv (.t 5))), none⟩,
  ⟨(some 24), (.op (.un .not (.t 23))), none⟩,
  ⟨(some 25), (.op (.mv (.t 24))), none⟩,
  ⟨(some 26), (.op (.mv (.t 7))), (some (25, false))⟩,
  ⟨(some 27), (.op (.bin .neq (.t 26) (.k (.int .i64 0)))), (some (25, false))⟩,
  ⟨(some 28), (.op (.pick (.t 25) (.k (.bool true)) (.t 27))), none⟩,
  ⟨(some 29), (.op (.mv (.t 28))), none⟩,
  ⟨(some 30), (.op (.loadN 3 (.t 6))), (some (29, false))⟩,
  ⟨(some 31), (.op (.loadN 3 (.t 1))), (some (29, false))⟩,
  ⟨(some 32), (.call (.k (.func (.func 11) #[] #[])) [(.t 30), (.t 31)]), (some (29, false))⟩,
  ⟨(some 33), (.op (.un .not (.t 32))), (some (29, false))⟩,
  ⟨(some 34), (.op (.pick (.t 29) (.k (.bool true)) (.t 33))), none⟩])
  (.cond (.t 34)
  (.seq
  (.ops [] [
  ⟨(some 2), (.op (.mv (.k (.int .i64 0)))), none⟩,
  ⟨(some 3), (.op (.mv (.k (.int .i64 2)))), none⟩])
  .ret)
  .skip))
  (.seq
  (.ops [] [
  ⟨(some 35), (.op (.mv (.t 4))), none⟩,
  ⟨(some 2), (.op (.mv (.t 35))), none⟩,
  ⟨(some 3), (.op (.mv (.k (.int .i64 0)))), none⟩])
  .ret))))),
  [(.t 2), (.t 3)]⟩
def c_scalar_When_1 : RFn :=
  ⟨7,
  (.seq
  (.ops [] [
  ⟨(some 1), (.op (.new [(.int .i64 0), (.slice none 0 0), (.slice none 0 0)])), none⟩,
  ⟨(some 2), (.op (.mv (.k (.int .i64 0)))), none⟩])
  (.seq
  (.ops [] [
  ⟨(some 3), (.op (.load1 (.t 0))), none⟩,
  ⟨(some 4), (.call (.k (.func (.func 37) #[] #[])) [(.t 3)]), none⟩,
  ⟨(some 5), (.op (.extract (.t 4) 0)), none⟩,
  ⟨(some 6), (.op (.extract (.t 4) 1)), none⟩,
  ⟨none, (.op (.store 3 (.t 1) (.t 5))), none⟩,
  ⟨(some 2), (.op (.mv (.t 6))), none⟩])
  .ret)),
  [(.cN 1 3), (.t 2)]⟩
theorem r_scalar_When_1 : resolveFn Tryd.prog 67 = some c_scalar_When_1 := by kernel_rfl

def c_scalar_just_string_ : RFn :=
  ⟨31,
  (.seq
  (.ops [] [
  ⟨(some 6), (.op (.box (.t 2))), none⟩,
  ⟨(some 8), (.op (.mv (.k (.string ⟨#[]⟩)))), none⟩,
  ⟨(some 9), (.op (.mv (.k (.int .i64 0)))), none⟩])
  (.seq
  (.ops [] [
  ⟨(some 10), (.op (.mv (.k (.string ⟨#[]⟩)))), none⟩])
  (.seq
  (.seq
  (.ops [] [
  ⟨(some 13), (.op (.mv (.t 1))), none⟩,
  ⟨(some 14), (.op (.un .not (.t 13))), none⟩])
  (.cond (.t 14)
  (.seq
  (.ops [] [
  ⟨(some 15), (.op (.mv (.t 10))), none⟩,
  ⟨(some 8), (.op (.mv (.t 15))), none⟩,
  ⟨(some 9), (.op (.mv (.k (.int .i64 2)))), none⟩])
  .ret)
  .skip))
  (.seq
  (.seq
  (.ops [] [
  ⟨(some 17), (.op (.mv (.t 3))), none⟩,
  ⟨(some 18), (.call (.t 17) []), none⟩,
  ⟨(some 16), (.op (.mv (.t 18))), none⟩,
  ⟨(some 19), (.op (.extract (.t 16) 0)), none⟩,
  ⟨(some 20), (.op (.extract (.t 16) 1)), none⟩,
  ⟨(some 11), (.op (.new [(.int .i64 0), (.slice none 0 0), (.slice none 0 0)])), none⟩,
  ⟨none, (.op (.store 3 (.t 11) (.t 19))), none⟩,
  ⟨(some 12), (.op (.mv (.t 20))), none⟩])
  (.seq
  (.ops [] [
  ⟨(some 21), (.op (.mv (.t 12))), none⟩,
  ⟨(some 22), (.op (.bin .neq (.t 21) (.k (.int .i64 0)))), none⟩,
  ⟨(some 23), (.op (.mv (.t 22))), none⟩,
  ⟨(some 24), (.op (.loadN 3 (.t 11))), (some (23, false))⟩,
  ⟨(some 25), (.op (.loadN 3 (.t 6))), (some (23, false))⟩,
  ⟨(some 26), (.call (.k (.func (.func 75) #[] #[])) [(.t 24), (.t 25)]), (some (23, false))⟩,
  ⟨(some 27), (.op (.un .not (.t 26))), (some (23, false))⟩,
  ⟨(some 28), (.op (.pick (.t 23) (.k (.bool true)) (.t 27))), none⟩])
  (.cond (.t 28)
  (.seq
  (.ops [] [
  ⟨(some 29), (.op (.mv (.t 10))), none⟩,
  ⟨(some 8), (.op (.mv (.t 29))), none⟩,
  ⟨(some 9), (.op (.mv (.k (.int .i64 2)))), none⟩])
  .ret)
  .skip)))
  (.seq
  (.ops [] [
  ⟨(some 30), (.op (.mv (.t 0))), none⟩,
  ⟨(some 8), (.op (.mv (.t 30))), none⟩,
  ⟨(some 9), (.op (.mv (.k (.int .i64 0)))), none⟩])
  .ret))))),
  [(.t 8), (.t 9)]⟩
theorem r_scalar_just_string_ : resolveFn Tryd.prog 61 = some c_scalar_just_string_ := by kernel_rfl

def c_scalar_just_int64_ : RFn :=
  ⟨31,
  (.seq
  (.ops [] [
  ⟨(some 6), (.op (.box (.t 2))), none⟩,
  ⟨(some 8), (.op (.mv (.k (.int .i64 0)))), none⟩,
  ⟨(some 9), (.op (.mv (.k (.int .i64 0)))), none⟩])
  (.seq
  (.ops [] [
  ⟨(some 10), (.op (.mv (.k (.int .i64 0)))), none⟩])
  (.seq
  (.seq
  (.ops [] [
  ⟨(some 13), (.op (.mv (.t 1))), none⟩,
  ⟨(some 14), (.op (.un .not (.t 13))), none⟩])
  (.cond (.t 14)
  (.seq
  (.ops [] [
  ⟨(some 15), (.op (.mv (.t 10))), none⟩,
  ⟨(some 8), (.op (.mv (.t 15))), none⟩,
  ⟨(some 9), (.op (.mv (.k (.int .i64 2)))), none⟩])
  .ret)
  .skip))
  (.seq
  (.seq
  (.ops [] [
  ⟨(some 17), (.op (.mv (.t 3))), none⟩,
  ⟨(some 18), (.call (.t 17) []), none⟩,
  ⟨(some 16), (.op (.mv (.t 18))), none⟩,
  ⟨(some 19), (.op (.extract (.t 16) 0)), none⟩,
  ⟨(some 20), (.op (.extract (.t 16) 1)), none⟩,
  ⟨(some 11), (.op (.new [(.int .i64 0), (.slice none 0 0), (.slice none 0 0)])), none⟩,
  ⟨none, (.op (.store 3 (.t 11) (.t 19))), none⟩,
  ⟨(some 12), (.op (.mv (.t 20))), none⟩])
  (.seq
  (.ops [] [
  ⟨(some 21), (.op (.mv (.t 12))), none⟩,
  ⟨(some 22), (.op (.bin .neq (.t 21) (.k (.int .i64 0)))), none⟩,
  ⟨(some 23), (.op (.mv (.t 22))), none⟩,
  ⟨(some 24), (.op (.loadN 3 (.t 11))), (some (23, false))⟩,
  ⟨(some 25), (.op (.loadN 3 (.t 6))), (some (23, false))⟩,
  ⟨(some 26), (.call (.k (.func (.func 75) #[] #[])) [(.t 24), (.t 25)]), (some (23, false))⟩,
  ⟨(some 27), (.op (.un .not (.t 26))), (some (23, false))⟩,
  ⟨(some 28), (.op (.pick (.t 23) (.k (.bool true)) (.t 27))), none⟩])
  (.cond (.t 28)
  (.seq
  (.ops [] [
  ⟨(some 29), (.op (.mv (.t 10))), none⟩,
  ⟨(some 8), (.op (.mv (.t 29))), none⟩,
  ⟨(some 9), (.op (.mv (.k (.int .i64 2)))), none⟩])
  .ret)
  .skip)))
  (.seq
  (.ops [] [
  ⟨(some 30), (.op (.mv (.t 0))), none⟩,
  ⟨(some 8), (.op (.mv (.t 30))), none⟩,
  ⟨(some 9), (.op (.mv (.k (.int .i64 0)))), none⟩])
  .ret))))),
  [(.t 8), (.t 9)]⟩
theorem r_scalar_just_int64_ : resolveFn Tryd.prog 66 = some c_scalar_just_int64_ := by kernel_rfl

def c_lanyardlaw05_ScalarTexts : RFn :=
  ⟨121,
  (.seq
  (.ops [] [
  ⟨(some 5), (.op (.box (.t 2))), none⟩,
  ⟨(some 6), (.op (.mv (.k (.bool false)))), none⟩])
  (.seq
  (.ops [] [
  ⟨(some 27), (.call (.k (.func (.func 9) #[] #[])) []), none⟩,
  ⟨(some 7), (.op (.mv (.t 27))), none⟩])
  (.seq
  (.ops [] [
  ⟨(some 28), (.op (.loadN 3 (.t 5))), none⟩,
  ⟨(some 29), (.call (.k (.func (.func 10) #[] #[])) [(.t 28)]), none⟩,
  ⟨(some 8), (.op (.mv (.t 29))), none⟩])
  (.seq
  (.seq
  (.ops [] [
  ⟨(some 30), (.op (.mv (.t 8))), none⟩,
  ⟨(some 31), (.op (.un .not (.t 30))), none⟩,
  ⟨(some 32), (.op (.mv (.t 31))), none⟩,
  ⟨(some 33), (.op (.mv (.t 0))), (some (32, false))⟩,
  ⟨(some 34), (.op (.lenStr (.t 33))), (some (32, false))⟩,
  ⟨(some 35), (.op (.bin .gtr (.t 34) (.k (.int .i64 1000)))), (some (32, false))⟩,
  ⟨(some 36), (.op (.pick (.t 32) (.k (.bool true)) (.t 35))), none⟩])
  (.cond (.t 36)
  (.seq
  (.ops [] [
  ⟨(some 37), (.op (.mv (.t 7))), none⟩,
  ⟨(some 6), (.op (.mv (.t 37))), none⟩])
  .ret)
  .skip))
  (.seq
  (.ops [] [
  ⟨(some 39), (.op (.mv (.t 0))), none⟩,
  ⟨(some 40), (.call (.k (.func (.func 33) #[] #[])) [(.t 39)]), none⟩,
  ⟨(some 38), (.op (.mv (.t 40))), none⟩,
  ⟨(some 41), (.op (.extract (.t 38) 0)), none⟩,
  ⟨(some 42), (.op (.extract (.t 38) 1)), none⟩,
  ⟨(some 9), (.op (.new [(.int .i64 0), (.slice none 0 0), (.slice none 0 0)])), none⟩,
  ⟨none, (.op (.store 3 (.t 9) (.t 41))), none⟩,
  ⟨(some 10), (.op (.mv (.t 42))), none⟩])
  (.seq
  (.ops [] [
  ⟨(some 44), (.op (.mv (.t 0))), none⟩,
  ⟨(some 45), (.call (.k (.func (.func 34) #[] #[])) [(.t 44)]), none⟩,
  ⟨(some 43), (.op (.mv (.t 45))), none⟩,
  ⟨(some 46), (.op (.extract (.t 43) 0)), none⟩,
  ⟨(some 47), (.op (.extract (.t 43) 1)), none⟩,
  ⟨(some 11), (.op (.new [(.int .i64 0), (.slice none 0 0), (.slice none 0 0)])), none⟩,
  ⟨none, (.op (.store 3 (.t 11) (.t 46))), none⟩,
  ⟨(some 12), (.op (.mv (.t 47))), none⟩])
  (.seq
  (.ops [] [
  ⟨(some 48), (.op (.loadN 3 (.t 9))), none⟩,
  ⟨(some 49), (.op (.loadN 3 (.t 11))), none⟩,
  ⟨(some 50), (.call (.k (.func (.func 11) #[] #[])) [(.t 48), (.t 49)]), none⟩,
  ⟨(some 13), (.op (.mv (.t 50))), none⟩])
  (.seq
  (.ops [] [
  ⟨(some 52), (.op (.loadN 3 (.t 5))), none⟩,
  ⟨(some 53), (.call (.k (.func (.func 35) #[] #[])) [(.t 52)]), none⟩,
  ⟨(some 51), (.op (.mv (.t 53))), none⟩,
  ⟨(some 54), (.op (.extract (.t 51) 0)), none⟩,
  ⟨(some 55), (.op (.extract (.t 51) 1)), none⟩,
  ⟨(some 14), (.op (.mv (.t 54))), none⟩,
  ⟨(some 15), (.op (.mv (.t 55))), none⟩])
  (.seq
  (.ops [] [
  ⟨(some 57), (.op (.loadN 3 (.t 5))), none⟩,
  ⟨(some 58), (.call (.k (.func (.func 36) #[] #[])) [(.t 57)]), none⟩,
  ⟨(some 56), (.op (.mv (.t 58))), none⟩,
  ⟨(some 59), (.op (.extract (.t 56) 0)), none⟩,
  ⟨(some 60), (.op (.extract (.t 56) 1)), none⟩,
  ⟨(some 16), (.op (.mv (.t 59))), none⟩,
  ⟨(some 17), (.op (.mv (.t 60))), none⟩])
  (.seq
  (.ops [] [
  ⟨(some 62), (.op (.mv (.t 1))), none⟩,
  ⟨(some 63), (.call (.k (.func (.func 37) #[] #[])) [(.t 62)]), none⟩,
  ⟨(some 61), (.op (.mv (.t 63))), none⟩,
  ⟨(some 64), (.op (.extract (.t 61) 0)), none⟩,
  ⟨(some 65), (.op (.extract (.t 61) 1)), none⟩,
  ⟨(some 18), (.op (.new [(.int .i64 0), (.slice none 0 0), (.slice none 0 0)])), none⟩,
  ⟨none, (.op (.store 3 (.t 18) (.t 64))), none⟩,
  ⟨(some 19), (.op (.mv (.t 65))), none⟩])
  (.seq
  (.ops [] [
  ⟨(some 67), (.op (.mv (.t 1))), none⟩,
  ⟨(some 68), (.call (.k (.func (.func 38) #[] #[])) [(.t 67)]), none⟩,
  ⟨(some 66), (.op (.mv (.t 68))), none⟩,
  ⟨(some 69), (.op (.extract (.t 66) 0)), none⟩,
  ⟨(some 70), (.op (.extract (.t 66) 1)), none⟩,
  ⟨(some 20), (.op (.new [(.int .i64 0), (.slice none 0 0), (.slice none 0 0)])), none⟩,
  ⟨none, (.op (.store 3 (.t 20) (.t 69))), none⟩,
  ⟨(some 21), (.op (.mv (.t 70))), none⟩])
  (.seq
  (.ops [] [
  ⟨(some 71), (.op (.loadN 3 (.t 18))), none⟩,
  ⟨(some 72), (.op (.loadN 3 (.t 20))), none⟩,
  ⟨(some 73), (.call (.k (.func (.func 11) #[] #[])) [(.t 71), (.t 72)]), none⟩,
  ⟨(some 22), (.op (.mv (.t 73))), none⟩])
  (.seq
  (.ops [] [
  ⟨(some 75), (.op (.loadN 3 (.t 5))), none⟩,
  ⟨(some 76), (.call (.k (.func (.func 39) #[] #[])) [(.t 75)]), none⟩,
  ⟨(some 74), (.op (.mv (.t 76))), none⟩,
  ⟨(some 77), (.op (.extract (.t 74) 0)), none⟩,
  ⟨(some 78), (.op (.extract (.t 74) 1)), none⟩,
  ⟨(some 23), (.op (.mv (.t 77))), none⟩,
  ⟨(some 24), (.op (.mv (.t 78))), none⟩])
  (.seq
  (.ops [] [
  ⟨(some 80), (.op (.loadN 3 (.t 5))), none⟩,
  ⟨(some 81), (.call (.k (.func (.func 40) #[] #[])) [(.t 80)]), none⟩,
  ⟨(some 79), (.op (.mv (.t 81))), none⟩,
  ⟨(some 82), (.op (.extract (.t 79) 0)), none⟩,
  ⟨(some 83), (.op (.extract (.t 79) 1)), none⟩,
  ⟨(some 25), (.op (.mv (.t 82))), none⟩,
  ⟨(some 26), (.op (.mv (.t 83))), none⟩])
  (.seq
  (.ops [] [
  ⟨(some 84), (.op (.mv (.t 7))), none⟩,
  ⟨(some 85), (.op (.mv (.t 84))), none⟩,
  ⟨(some 86), (.op (.mv (.t 13))), (some (85, true))⟩,
  ⟨(some 87), (.op (.pick (.t 85) (.t 86) (.k (.bool false)))), none⟩,
  ⟨(some 88), (.op (.mv (.t 87))), none⟩,
  ⟨(some 89), (.op (.mv (.t 10))), (some (88, true))⟩,
  ⟨(some 90), (.op (.mv (.t 12))), (some (88, true))⟩,
  ⟨(some 91), (.op (.bin .eql (.t 89) (.t 90))), (some (88, true))⟩,
  ⟨(some 92), (.op (.pick (.t 88) (.t 91) (.k (.bool false)))), none⟩,
  ⟨(some 93), (.op (.mv (.t 92))), none⟩,
  ⟨(some 94), (.op (.mv (.t 14))), (some (93, true))⟩,
  ⟨(some 95), (.op (.mv (.t 16))), (some (93, true))⟩,
  ⟨(some 96), (.op (.bin .eql (.t 94) (.t 95))), (some (93, true))⟩,
  ⟨(some 97), (.op (.pick (.t 93) (.t 96) (.k (.bool false)))), none⟩,
  ⟨(some 98), (.op (.mv (.t 97))), none⟩,
  ⟨(some 99), (.op (.mv (.t 15))), (some (98, true))⟩,
  ⟨(some 100), (.op (.mv (.t 17))), (some (98, true))⟩,
  ⟨(some 101), (.op (.bin .eql (.t 99) (.t 100))), (some (98, true))⟩,
  ⟨(some 102), (.op (.pick (.t 98) (.t 101) (.k (.bool false)))), none⟩,
  ⟨(some 103), (.op (.mv (.t 102))), none⟩,
  ⟨(some 104), (.op (.mv (.t 22))), (some (103, true))⟩,
  ⟨(some 105), (.op (.pick (.t 103) (.t 104) (.k (.bool false)))), none⟩,
  ⟨(some 106), (.op (.mv (.t 105))), none⟩,
  ⟨(some 107), (.op (.mv (.t 19))), (some (106, true))⟩,
  ⟨(some 108), (.op (.mv (.t 21))), (some (106, true))⟩,
  ⟨(some 109), (.op (.bin .eql (.t 107) (.t 108))), (some (106, true))⟩,
  ⟨(some 110), (.op (.pick (.t 106) (.t 109) (.k (.bool false)))), none⟩,
  ⟨(some 111), (.op (.mv (.t 110))), none⟩,
  ⟨(some 112), (.op (.mv (.t 23))), (some (111, true))⟩,
  ⟨(some 113), (.op (.mv (.t 25))), (some (111, true))⟩,
  ⟨(some 114), (.op (.bin .eql (.t 112) (.t 113))), (some (111, true))⟩,
  ⟨(some 115), (.op (.pick (.t 111) (.t 114) (.k (.bool false)))), none⟩,
  ⟨(some 116), (.op (.mv (.t 115))), none⟩,
  ⟨(some 117), (.op (.mv (.t 24))), (some (116, true))⟩,
  ⟨(some 118), (.op (.mv (.t 26))), (some (116, true))⟩,
  ⟨(some 119), (.op (.bin .eql (.t 117) (.t 118))), (some (116, true))⟩,
  ⟨(some 120), (.op (.pick (.t 116) (.t 119) (.k (.bool false)))), none⟩,
  ⟨(some 6), (.op (.mv (.t 120))), none⟩])
  .ret))))))))))))))),
  [(.t 6)]⟩
def c_lanyardlaw05_ScalarJust : RFn :=
  ⟨142,
  (.seq
  (.ops [] [
  ⟨(some 1), (.op (.box (.t 0))), none⟩,
  ⟨(some 2), (.op (.mv (.k (.bool false)))), none⟩])
  (.seq
  (.ops [] [
  ⟨(some 25), (.call (.k (.func (.func 9) #[] #[])) []), none⟩,
  ⟨(some 3), (.op (.mv (.t 25))), none⟩])
  (.seq
  (.ops [] [
  ⟨(some 26), (.op (.loadN 3 (.t 1))), none⟩,
  ⟨(some 27), (.call (.k (.func (.func 10) #[] #[])) [(.t 26)]), none⟩,
  ⟨(some 4), (.op (.mv (.t 27))), none⟩])
  (.seq
  (.seq
  (.ops [] [
  ⟨(some 28), (.op (.mv (.t 4))), none⟩,
  ⟨(some 29), (.op (.un .not (.t 28))), none⟩])
  (.cond (.t 29)
  (.seq
  (.ops [] [
  ⟨(some 30), (.op (.mv (.t 3))), none⟩,
  ⟨(some 2), (.op (.mv (.t 30))), none⟩])
  .ret)
  .skip))
  (.seq
  (.ops [] [
  ⟨(some 32), (.op (.loadN 3 (.t 1))), none⟩,
  ⟨(some 33), (.call (.k (.func (.func 16) #[] #[])) [(.t 32)]), none⟩,
  ⟨(some 31), (.op (.mv (.t 33))), none⟩,
  ⟨(some 34), (.op (.extract (.t 31) 0)), none⟩,
  ⟨(some 35), (.op (.extract (.t 31) 1)), none⟩,
  ⟨(some 5), (.op (.mv (.t 34))), none⟩,
  ⟨(some 6), (.op (.mv (.t 35))), none⟩])
  (.seq
  (.ops [
  ⟨(some 36), (.op (.mv (.t 5))), none⟩,
  ⟨(some 37), (.call (.k (.func (.func 12) #[] #[])) [(.t 36)]), none⟩,
  ⟨(some 38), (.op (.loadN 3 (.t 1))), none⟩] [
  ⟨(some 39), (.call (.k (.func (.func 11) #[] #[])) [(.t 37), (.t 38)]), none⟩,
  ⟨(some 7), (.op (.mv (.t 39))), none⟩])
  (.seq
  (.seq
  (.ops [] [
  ⟨(some 40), (.op (.mv (.t 6))), none⟩,
  ⟨(some 41), (.op (.bin .eql (.t 40) (.k (.int .i64 0)))), none⟩,
  ⟨(some 42), (.op (.mv (.t 41))), none⟩,
  ⟨(some 43), (.op (.mv (.t 7))), (some (42, true))⟩,
  ⟨(some 44), (.op (.un .not (.t 43))), (some (42, true))⟩,
  ⟨(some 45), (.op (.pick (.t 42) (.t 44) (.k (.bool false)))), none⟩])
  (.cond (.t 45)
  (.seq
  (.ops [] [
  ⟨(some 2), (.op (.mv (.k (.bool false)))), none⟩])
  .ret)
  .skip))
  (.seq
  (.ops [] [
  ⟨(some 47), (.op (.loadN 3 (.t 1))), none⟩,
  ⟨(some 48), (.call (.k (.func (.func 30) #[] #[])) [(.t 47)]), none⟩,
  ⟨(some 46), (.op (.mv (.t 48))), none⟩,
  ⟨(some 49), (.op (.extract (.t 46) 0)), none⟩,
  ⟨(some 50), (.op (.extract (.t 46) 1)), none⟩,
  ⟨(some 8), (.op (.mv (.t 49))), none⟩,
  ⟨(some 9), (.op (.mv (.t 50))), none⟩])
  (.seq
  (.ops [] [
  ⟨(some 52), (.op (.mv (.t 8))), none⟩,
  ⟨(some 53), (.call (.k (.func (.func 28) #[] #[])) [(.t 52)]), none⟩,
  ⟨(some 51), (.op (.mv (.t 53))), none⟩,
  ⟨(some 54), (.op (.extract (.t 51) 0)), none⟩,
  ⟨(some 55), (.op (.extract (.t 51) 1)), none⟩,
  ⟨(some 10), (.op (.new [(.int .i64 0), (.slice none 0 0), (.slice none 0 0)])), none⟩,
  ⟨none, (.op (.store 3 (.t 10) (.t 54))), none⟩,
  ⟨(some 11), (.op (.mv (.t 55))), none⟩])
  (.seq
  (.ops [] [
  ⟨(some 56), (.op (.loadN 3 (.t 10))), none⟩,
  ⟨(some 57), (.op (.loadN 3 (.t 1))), none⟩,
  ⟨(some 58), (.call (.k (.func (.func 11) #[] #[])) [(.t 56), (.t 57)]), none⟩,
  ⟨(some 7), (.op (.mv (.t 58))), none⟩])
  (.seq
  (.seq
  (.ops [] [
  ⟨(some 59), (.op (.mv (.t 9))), none⟩,
  ⟨(some 60), (.op (.bin .eql (.t 59) (.k (.int .i64 0)))), none⟩,
  ⟨(some 61), (.op (.mv (.t 60))), none⟩,
  ⟨(some 62), (.op (.mv (.t 11))), (some (61, true))⟩,
  ⟨(some 63), (.op (.bin .neq (.t 62) (.k (.int .i64 0)))), (some (61, true))⟩,
  ⟨(some 64), (.op (.mv (.t 63))), (some (61, true))⟩,
  ⟨(some 65), (.op (.mv (.t 7))), (some (64, false))⟩,
  ⟨(some 66), (.op (.un .not (.t 65))), (some (64, false))⟩,
  ⟨(some 67), (.op (.pick (.t 64) (.k (.bool true)) (.t 66))), (some (61, true))⟩,
  ⟨(some 68), (.op (.pick (.t 61) (.t 67) (.k (.bool false)))), none⟩])
  (.cond (.t 68)
  (.seq
  (.ops [] [
  ⟨(some 2), (.op (.mv (.k (.bool false)))), none⟩])
  .ret)
  .skip))
  (.seq
  (.ops [] [
  ⟨(some 70), (.op (.loadN 3 (.t 1))), none⟩,
  ⟨(some 71), (.call (.k (.func (.func 22) #[] #[])) [(.t 70)]), none⟩,
  ⟨(some 69), (.op (.mv (.t 71))), none⟩,
  ⟨(some 72), (.op (.extract (.t 69) 0)), none⟩,
  ⟨(some 73), (.op (.extract (.t 69) 1)), none⟩,
  ⟨(some 74), (.op (.extract (.t 69) 2)), none⟩,
  ⟨(some 12), (.op (.mv (.t 72))), none⟩,
  ⟨(some 13), (.op (.mv (.t 73))), none⟩,
  ⟨(some 14), (.op (.mv (.t 74))), none⟩])
  (.seq
  (.ops [] [
  ⟨(some 76), (.op (.mv (.t 12))), none⟩,
  ⟨(some 77), (.op (.mv (.t 13))), none⟩,
  ⟨(some 78), (.call (.k (.func (.func 20) #[] #[])) [(.t 76), (.t 77)]), none⟩,
  ⟨(some 75), (.op (.mv (.t 78))), none⟩,
  ⟨(some 79), (.op (.extract (.t 75) 0)), none⟩,
  ⟨(some 80), (.op (.extract (.t 75) 1)), none⟩,
  ⟨(some 15), (.op (.new [(.int .i64 0), (.slice none 0 0), (.slice none 0 0)])), none⟩,
  ⟨none, (.op (.store 3 (.t 15) (.t 79))), none⟩,
  ⟨(some 16), (.op (.mv (.t 80))), none⟩])
  (.seq
  (.ops [] [
  ⟨(some 81), (.op (.loadN 3 (.t 15))), none⟩,
  ⟨(some 82), (.op (.loadN 3 (.t 1))), none⟩,
  ⟨(some 83), (.call (.k (.func (.func 11) #[] #[])) [(.t 81), (.t 82)]), none⟩,
  ⟨(some 7), (.op (.mv (.t 83))), none⟩])
  (.seq
  (.seq
  (.ops [] [
  ⟨(some 84), (.op (.mv (.t 14))), none⟩,
  ⟨(some 85), (.op (.bin .eql (.t 84) (.k (.int .i64 0)))), none⟩,
  ⟨(some 86), (.op (.mv (.t 85))), none⟩,
  ⟨(some 87), (.op (.mv (.t 16))), (some (86, true))⟩,
  ⟨(some 88), (.op (.bin .neq (.t 87) (.k (.int .i64 0)))), (some (86, true))⟩,
  ⟨(some 89), (.op (.mv (.t 88))), (some (86, true))⟩,
  ⟨(some 90), (.op (.mv (.t 7))), (some (89, false))⟩,
  ⟨(some 91), (.op (.un .not (.t 90))), (some (89, false))⟩,
  ⟨(some 92), (.op (.pick (.t 89) (.k (.bool true)) (.t 91))), (some (86, true))⟩,
  ⟨(some 93), (.op (.pick (.t 86) (.t 92) (.k (.bool false)))), none⟩])
  (.cond (.t 93)
  (.seq
  (.ops [] [
  ⟨(some 2), (.op (.mv (.k (.bool false)))), none⟩])
  .ret)
  .skip))
  (.seq
  (.ops [] [
  ⟨(some 95), (.op (.loadN 3 (.t 1))), none⟩,
  ⟨(some 96), (.call (.k (.func (.func 35) #[] #[])) [(.t 95)]), none⟩,
  ⟨(some 94), (.op (.mv (.t 96))), none⟩,
  ⟨(some 97), (.op (.extract (.t 94) 0)), none⟩,
  ⟨(some 98), (.op (.extract (.t 94) 1)), none⟩,
  ⟨(some 17), (.op (.mv (.t 97))), none⟩,
  ⟨(some 18), (.op (.mv (.t 98))), none⟩])
  (.seq
  (.ops [] [
  ⟨(some 100), (.op (.mv (.t 17))), none⟩,
  ⟨(some 101), (.call (.k (.func (.func 33) #[] #[])) [(.t 100)]), none⟩,
  ⟨(some 99), (.op (.mv (.t 101))), none⟩,
  ⟨(some 102), (.op (.extract (.t 99) 0)), none⟩,
  ⟨(some 103), (.op (.extract (.t 99) 1)), none⟩,
  ⟨(some 19), (.op (.new [(.int .i64 0), (.slice none 0 0), (.slice none 0 0)])), none⟩,
  ⟨none, (.op (.store 3 (.t 19) (.t 102))), none⟩,
  ⟨(some 20), (.op (.mv (.t 103))), none⟩])
  (.seq
  (.ops [] [
  ⟨(some 104), (.op (.loadN 3 (.t 19))), none⟩,
  ⟨(some 105), (.op (.loadN 3 (.t 1))), none⟩,
  ⟨(some 106), (.call (.k (.func (.func 11) #[] #[])) [(.t 104), (.t 105)]), none⟩,
  ⟨(some 7), (.op (.mv (.t 106))), none⟩])
  (.seq
  (.seq
  (.ops [] [
  ⟨(some 107), (.op (.mv (.t 18))), none⟩,
  ⟨(some 108), (.op (.bin .eql (.t 107) (.k (.int .i64 0)))), none⟩,
  ⟨(some 109), (.op (.mv (.t 108))), none⟩,
  ⟨(some 110), (.op (.mv (.t 20))), (some (109, true))⟩,
  ⟨(some 111), (.op (.bin .neq (.t 110) (.k (.int .i64 0)))), (some (109, true))⟩,
  ⟨(some 112), (.op (.mv (.t 111))), (some (109, true))⟩,
  ⟨(some 113), (.op (.mv (.t 7))), (some (112, false))⟩,
  ⟨(some 114), (.op (.un .not (.t 113))), (some (112, false))⟩,
  ⟨(some 115), (.op (.pick (.t 112) (.k (.bool true)) (.t 114))), (some (109, true))⟩,
  ⟨(some 116), (.op (.pick (.t 109) (.t 115) (.k (.bool false)))), none⟩])
  (.cond (.t 116)
  (.seq
  (.ops [] [
  ⟨(some 2), (.op (.mv (.k (.bool false)))), none⟩])
  .ret)
  .skip))
  (.seq
  (.ops [] [
  ⟨(some 118), (.op (.loadN 3 (.t 1))), none⟩,
  ⟨(some 119), (.call (.k (.func (.func 39) #[] #[])) [(.t 118)]), none⟩,
  ⟨(some 117), (.op (.mv (.t 119))), none⟩,
  ⟨(some 120), (.op (.extract (.t 117) 0)), none⟩,
  ⟨(some 121), (.op (.extract (.t 117) 1)), none⟩,
  ⟨(some 21), (.op (.mv (.t 120))), none⟩,
  ⟨(some 22), (.op (.mv (.t 121))), none⟩])
  (.seq
  (.ops [] [
  ⟨(some 123), (.op (.mv (.t 21))), none⟩,
  ⟨(some 124), (.call (.k (.func (.func 37) #[] #[])) [(.t 123)]), none⟩,
  ⟨(some 122), (.op (.mv (.t 124))), none⟩,
  ⟨(some 125), (.op (.extract (.t 122) 0)), none⟩,
  ⟨(some 126), (.op (.extract (.t 122) 1)), none⟩,
  ⟨(some 23), (.op (.new [(.int .i64 0), (.slice none 0 0), (.slice none 0 0)])), none⟩,
  ⟨none, (.op (.store 3 (.t 23) (.t 125))), none⟩,
  ⟨(some 24), (.op (.mv (.t 126))), none⟩])
  (.seq
  (.ops [] [
  ⟨(some 127), (.op (.loadN 3 (.t 23))), none⟩,
  ⟨(some 128), (.op (.loadN 3 (.t 1))), none⟩,
  ⟨(some 129), (.call (.k (.func (.func 11) #[] #[])) [(.t 127), (.t 128)]), none⟩,
  ⟨(some 7), (.op (.mv (.t 129))), none⟩])
  (.seq
  (.ops [] [
  ⟨(some 130), (.op (.mv (.t 3))), none⟩,
  ⟨(some 131), (.op (.mv (.t 130))), none⟩,
  ⟨(some 132), (.op (.mv (.t 22))), (some (131, true))⟩,
  ⟨(some 133), (.op (.bin .neq (.t 132) (.k (.int .i64 0)))), (some (131, true))⟩,
  ⟨(some 134), (.op (.mv (.t 133))), (some (131, true))⟩,
  ⟨(some 135), (.op (.mv (.t 24))), (some (134, false))⟩,
  ⟨(some 136), (.op (.bin .eql (.t 135) (.k (.int .i64 0)))), (some (134, false))⟩,
  ⟨(some 137), (.op (.mv (.t 136))), (some (134, false))⟩,
  ⟨(some 138), (.op (.mv (.t 7))), (some (137, true))⟩,
  ⟨(some 139), (.op (.pick (.t 137) (.t 138) (.k (.bool false)))), (some (134, false))⟩,
  ⟨(some 140), (.op (.pick (.t 134) (.k (.bool true)) (.t 139))), (some (131, true))⟩,
  ⟨(some 141), (.op (.pick (.t 131) (.t 140) (.k (.bool false)))), none⟩,
  ⟨(some 2), (.op (.mv (.t 141))), none⟩])
  .ret))))))))))))))))))))))),
  [(.t 2)]⟩
theorem r_lanyardlaw05_ScalarJust : resolveFn Tryd.prog 8 = some c_lanyardlaw05_ScalarJust := by kernel_rfl

end Go.Ga

/- Texts as elements. -/
namespace Go.Ga
open Go Go.Proofs
set_option linter.unusedSimpArgs false
set_option linter.unusedVariables false
set_option maxRecDepth 100000
attribute [local irreducible] appendK

def okC (z : UInt8) : Bool := decide (32 ≤ z.toNat) && decide (z.toNat ≤ 126)
def textR (l : List UInt8) : Except Nat Fo.El := if l.length ≤ 200 ∧ l.all okC = true then .ok ⟨22, l, .nil⟩ else .error 1
theorem text_bad {l : List UInt8} (h : ¬ l.all okC = true) : textR l = .error 1 := if_neg fun hc => h hc.2
theorem text_long {l : List UInt8} (h : 200 < l.length) : textR l = .error 1 := if_neg fun hc => by omega
theorem take_snoc {l : List UInt8} {i : Nat} (h : i < l.length) : l.take (i + 1) = l.take i ++ [l.getD i 0] := by
  rw [List.take_add_one, List.getElem?_eq_getElem h, List.getD_eq_getElem?_getD, List.getElem?_eq_getElem h]; rfl
noncomputable def wordsR (x : Fo.El) : List UInt8 × Nat := open Classical in if textR x.b = .ok x then (x.b, 0) else ([], 2)
def strV (l : List UInt8) : Value := .string ⟨l.toArray⟩
theorem textR_ok {l : List UInt8} {y : Fo.El} (h : textR l = .ok y) : l.length ≤ 200 ∧ y = ⟨22, l, .nil⟩ := by
  unfold textR at h
  split at h
  · rename_i hc; injection h with h; exact ⟨hc.1, h.symm⟩
  · cases h
theorem textR_ws {l : List UInt8} {y : Fo.El} (h : textR l = .ok y) : y.f.ws ≤ 201 := by
  obtain ⟨h1, rfl⟩ := textR_ok h
  show 1 + l.length + 0 + 0 ≤ _
  omega
theorem textR_k {l : List UInt8} {y : Fo.El} (h : textR l = .ok y) : y.k = .nil := by rw [(textR_ok h).2]

section
variable {nx : Nat} {gt : Nat → Option Blk}

theorem ct_TextE {s : ByteArray} (hs : s.size ≤ 1000000) : Ct Tryd.prog 33 [.string s] nx gt fun v x g => NErr nx x g v (textR s.data.toList) := by
  refine Ct.of hmx r_scalar_Text (by simp [c_scalar_Text]) fun b hb => ?_
  have hlen : s.data.toList.length = s.size := by simp
  obtain ⟨L, hL⟩ : ∃ L, s.data.toList = L := ⟨_, rfl⟩
  rw [hL] at hlen ⊢
  have hF : ∀ q, q < nx → upd gt nx (some (.cells [Value.int .i64 0, .slice none 0 0, .slice none 0 0] false)) q = gt q := fun q hq => by simp only [upd_e]; rw [if_neg (by omega)]
  have hb0 : upd gt nx (some (.cells [Value.int .i64 0, .slice none 0 0, .slice none 0 0] false)) nx = some (.cells [Value.int .i64 0, .slice none 0 0, .slice none 0 0] false) := by simp only [upd_e, if_true]
  have ext : ∀ (g : Nat → Option Blk) (cs : List Value), (∀ p, p ≠ nx → upd g nx (some (.cells cs false)) p = g p) := fun g cs p hp => by simp only [upd_e]; rw [if_neg hp]
  have hnn : (nx = nx + 1) = False := by simp
  by_cases h200 : (200 : Int) < (s.size : Int)
  · rw [text_long (by omega)]
    simp only [c_scalar_Text, ↓gaW, ↓gaV, ↓gaC, ↓gaN, gaP, Nat.reduceEqDiff, Nat.reduceLeDiff, Nat.reduceAdd, Nat.reduceSub, Nat.reduceMul, Int.reduceLT, Int.reduceLE, Int.reduceEq, Int.reduceToNat, Int.reduceAdd, Int.reduceSub, Int.reduceMul, reduceCtorEq, ↓reduceIte, List.getD_cons_zero, List.getD_cons_succ, fillL, splice, List.take_zero, List.drop_zero, List.drop_succ_cons, List.take_succ_cons, List.drop_nil, List.take_nil, gaU, h200, decide_true]
    repeat refine And.intro (by omega) ?_
    refine And.intro (node_cells _ _ _ _ _ _ _) ?_
    exact end_nT (q := nx) (t := 0) (B := none) (m := 0) (d := 0) (A := none) (n := 0) (c := 0) (ro := false) (w := .int .i64 1) (by first | (simp only [↓gaW, ↓gaV, ↓gaC, ↓gaN, gaP, Nat.reduceEqDiff, Nat.reduceLeDiff, Nat.reduceAdd, Nat.reduceSub, Nat.reduceMul, Int.reduceLT, Int.reduceLE, Int.reduceEq, Int.reduceToNat, Int.reduceAdd, Int.reduceSub, Int.reduceMul, reduceCtorEq, ↓reduceIte]; done) | (simp only [↓gaW, ↓gaV, ↓gaC, ↓gaN, gaP, Nat.reduceEqDiff, Nat.reduceLeDiff, Nat.reduceAdd, Nat.reduceSub, Nat.reduceMul, Int.reduceLT, Int.reduceLE, Int.reduceEq, Int.reduceToNat, Int.reduceAdd, Int.reduceSub, Int.reduceMul, reduceCtorEq, ↓reduceIte]; rfl)) (by first | (simp only [↓gaW, ↓gaV, ↓gaC, ↓gaN, gaP, Nat.reduceEqDiff, Nat.reduceLeDiff, Nat.reduceAdd, Nat.reduceSub, Nat.reduceMul, Int.reduceLT, Int.reduceLE, Int.reduceEq, Int.reduceToNat, Int.reduceAdd, Int.reduceSub, Int.reduceMul, reduceCtorEq, ↓reduceIte]; done) | (simp only [↓gaW, ↓gaV, ↓gaC, ↓gaN, gaP, Nat.reduceEqDiff, Nat.reduceLeDiff, Nat.reduceAdd, Nat.reduceSub, Nat.reduceMul, Int.reduceLT, Int.reduceLE, Int.reduceEq, Int.reduceToNat, Int.reduceAdd, Int.reduceSub, Int.reduceMul, reduceCtorEq, ↓reduceIte]; rfl)) (by simp only [upd_e, if_true]) (by omega) (fun p hp => by rw [ext _ _ p (by omega), hF p hp]) ⟨rfl, by omega⟩
  simp only [c_scalar_Text, ↓gaW, ↓gaV, ↓gaC, ↓gaN, gaP, Nat.reduceEqDiff, Nat.reduceLeDiff, Nat.reduceAdd, Nat.reduceSub, Nat.reduceMul, Int.reduceLT, Int.reduceLE, Int.reduceEq, Int.reduceToNat, Int.reduceAdd, Int.reduceSub, Int.reduceMul, reduceCtorEq, ↓reduceIte, List.getD_cons_zero, List.getD_cons_succ, fillL, splice, List.take_zero, List.drop_zero, List.drop_succ_cons, List.take_succ_cons, List.drop_nil, List.take_nil, gaU, h200, decide_false]
  generalize upd gt nx (some (.cells [Value.int .i64 0, .slice none 0 0, .slice none 0 0] false)) = g0 at *
  repeat refine And.intro (by omega) ?_
  refine loop_of (fun j f mm => ∃ i, j = s.size - i ∧ i ≤ s.size ∧ (L.take i).all okC = true ∧ f 0 = .string s ∧ f 2 = .pointer (some ⟨nx, 0, none⟩) ∧ f 10 = .int .i64 (s.size : Nat) ∧ f 11 = .int .i64 (i : Nat) ∧ mm = ⟨nx + 1, b, g0⟩) s.size ⟨0, by omega, by omega, by simp, (by first | (simp only [↓gaW, ↓gaV, ↓gaC, ↓gaN, gaP, Nat.reduceEqDiff, Nat.reduceLeDiff, Nat.reduceAdd, Nat.reduceSub, Nat.reduceMul, Int.reduceLT, Int.reduceLE, Int.reduceEq, Int.reduceToNat, Int.reduceAdd, Int.reduceSub, Int.reduceMul, reduceCtorEq, ↓reduceIte]; done) | (simp only [↓gaW, ↓gaV, ↓gaC, ↓gaN, gaP, Nat.reduceEqDiff, Nat.reduceLeDiff, Nat.reduceAdd, Nat.reduceSub, Nat.reduceMul, Int.reduceLT, Int.reduceLE, Int.reduceEq, Int.reduceToNat, Int.reduceAdd, Int.reduceSub, Int.reduceMul, reduceCtorEq, ↓reduceIte]; rfl)), (by first | (simp only [↓gaW, ↓gaV, ↓gaC, ↓gaN, gaP, Nat.reduceEqDiff, Nat.reduceLeDiff, Nat.reduceAdd, Nat.reduceSub, Nat.reduceMul, Int.reduceLT, Int.reduceLE, Int.reduceEq, Int.reduceToNat, Int.reduceAdd, Int.reduceSub, Int.reduceMul, reduceCtorEq, ↓reduceIte]; done) | (simp only [↓gaW, ↓gaV, ↓gaC, ↓gaN, gaP, Nat.reduceEqDiff, Nat.reduceLeDiff, Nat.reduceAdd, Nat.reduceSub, Nat.reduceMul, Int.reduceLT, Int.reduceLE, Int.reduceEq, Int.reduceToNat, Int.reduceAdd, Int.reduceSub, Int.reduceMul, reduceCtorEq, ↓reduceIte]; rfl)), (by first | (simp only [↓gaW, ↓gaV, ↓gaC, ↓gaN, gaP, Nat.reduceEqDiff, Nat.reduceLeDiff, Nat.reduceAdd, Nat.reduceSub, Nat.reduceMul, Int.reduceLT, Int.reduceLE, Int.reduceEq, Int.reduceToNat, Int.reduceAdd, Int.reduceSub, Int.reduceMul, reduceCtorEq, ↓reduceIte]; done) | (simp only [↓gaW, ↓gaV, ↓gaC, ↓gaN, gaP, Nat.reduceEqDiff, Nat.reduceLeDiff, Nat.reduceAdd, Nat.reduceSub, Nat.reduceMul, Int.reduceLT, Int.reduceLE, Int.reduceEq, Int.reduceToNat, Int.reduceAdd, Int.reduceSub, Int.reduceMul, reduceCtorEq, ↓reduceIte]; rfl)), (by first | (simp only [↓gaW, ↓gaV, ↓gaC, ↓gaN, gaP, Nat.reduceEqDiff, Nat.reduceLeDiff, Nat.reduceAdd, Nat.reduceSub, Nat.reduceMul, Int.reduceLT, Int.reduceLE, Int.reduceEq, Int.reduceToNat, Int.reduceAdd, Int.reduceSub, Int.reduceMul, reduceCtorEq, ↓reduceIte]; done) | (simp only [↓gaW, ↓gaV, ↓gaC, ↓gaN, gaP, Nat.reduceEqDiff, Nat.reduceLeDiff, Nat.reduceAdd, Nat.reduceSub, Nat.reduceMul, Int.reduceLT, Int.reduceLE, Int.reduceEq, Int.reduceToNat, Int.reduceAdd, Int.reduceSub, Int.reduceMul, reduceCtorEq, ↓reduceIte]; rfl)), rfl⟩ ?_
  rintro j f mm ⟨i, hj, hi, hal, f0, f2, f10, f11, rfl⟩
  by_cases hlt : (i : Int) < (s.size : Int)
  · obtain ⟨z, hz⟩ : ∃ z, z = L.getD i 0 := ⟨_, rfl⟩
    have hz8 := z.toNat_lt
    have hzl : z ∈ L := by rw [hz, List.getD_eq_getElem?_getD, List.getElem?_eq_getElem (by omega)]; exact List.getElem_mem _
    have c0 : u8V (L.getD i 0) = .int .u8 ((z.toNat : Nat) : Int) := by rw [hz]; rfl
    have i2 : IntKind.i64.wrap ((i : Int) + 1) = ((i + 1 : Nat) : Int) := by rw [i64_w _ (by omega)]; omega
    have hbad : okC z = false → textR L = .error 1 := fun h => text_bad (fun ha => by
      have := List.all_eq_true.1 ha z hzl
      rw [h] at this; cases this)
    by_cases h1 : (z.toNat : Int) < 32
    · rw [hbad (by simp [okC]; omega)]
      simp only [↓gaW, ↓gaV, ↓gaC, ↓gaN, gaP, Nat.reduceEqDiff, Nat.reduceLeDiff, Nat.reduceAdd, Nat.reduceSub, Nat.reduceMul, Int.reduceLT, Int.reduceLE, Int.reduceEq, Int.reduceToNat, Int.reduceAdd, Int.reduceSub, Int.reduceMul, reduceCtorEq, ↓reduceIte, List.getD_cons_zero, List.getD_cons_succ, fillL, splice, List.take_zero, List.drop_zero, List.drop_succ_cons, List.take_succ_cons, List.drop_nil, List.take_nil, gaU, f0, f2, f10, f11, hlt, decide_true, hL, c0, h1, hb0]
      repeat refine And.intro (by omega) ?_
      refine And.intro (node_cells _ _ _ _ _ _ _) ?_
      exact end_nT (q := nx) (t := 0) (B := none) (m := 0) (d := 0) (A := none) (n := 0) (c := 0) (ro := false) (w := .int .i64 1) (by simp only [↓gaW, ↓gaV, ↓gaC, ↓gaN, gaP, Nat.reduceEqDiff, Nat.reduceLeDiff, Nat.reduceAdd, Nat.reduceSub, Nat.reduceMul, Int.reduceLT, Int.reduceLE, Int.reduceEq, Int.reduceToNat, Int.reduceAdd, Int.reduceSub, Int.reduceMul, reduceCtorEq, ↓reduceIte, f2]) (by first | (simp only [↓gaW, ↓gaV, ↓gaC, ↓gaN, gaP, Nat.reduceEqDiff, Nat.reduceLeDiff, Nat.reduceAdd, Nat.reduceSub, Nat.reduceMul, Int.reduceLT, Int.reduceLE, Int.reduceEq, Int.reduceToNat, Int.reduceAdd, Int.reduceSub, Int.reduceMul, reduceCtorEq, ↓reduceIte]; done) | (simp only [↓gaW, ↓gaV, ↓gaC, ↓gaN, gaP, Nat.reduceEqDiff, Nat.reduceLeDiff, Nat.reduceAdd, Nat.reduceSub, Nat.reduceMul, Int.reduceLT, Int.reduceLE, Int.reduceEq, Int.reduceToNat, Int.reduceAdd, Int.reduceSub, Int.reduceMul, reduceCtorEq, ↓reduceIte]; rfl)) (by simp only [upd_e, if_true]) (by omega) (fun p hp => by rw [ext _ _ p (by omega), hF p hp]) ⟨rfl, by omega⟩
    by_cases h2 : (126 : Int) < (z.toNat : Int)
    · rw [hbad (by simp [okC]; omega)]
      simp only [↓gaW, ↓gaV, ↓gaC, ↓gaN, gaP, Nat.reduceEqDiff, Nat.reduceLeDiff, Nat.reduceAdd, Nat.reduceSub, Nat.reduceMul, Int.reduceLT, Int.reduceLE, Int.reduceEq, Int.reduceToNat, Int.reduceAdd, Int.reduceSub, Int.reduceMul, reduceCtorEq, ↓reduceIte, List.getD_cons_zero, List.getD_cons_succ, fillL, splice, List.take_zero, List.drop_zero, List.drop_succ_cons, List.take_succ_cons, List.drop_nil, List.take_nil, gaU, f0, f2, f10, f11, hlt, decide_true, decide_false, hL, c0, h1, h2, hb0]
      repeat refine And.intro (by omega) ?_
      refine And.intro (node_cells _ _ _ _ _ _ _) ?_
      exact end_nT (q := nx) (t := 0) (B := none) (m := 0) (d := 0) (A := none) (n := 0) (c := 0) (ro := false) (w := .int .i64 1) (by simp only [↓gaW, ↓gaV, ↓gaC, ↓gaN, gaP, Nat.reduceEqDiff, Nat.reduceLeDiff, Nat.reduceAdd, Nat.reduceSub, Nat.reduceMul, Int.reduceLT, Int.reduceLE, Int.reduceEq, Int.reduceToNat, Int.reduceAdd, Int.reduceSub, Int.reduceMul, reduceCtorEq, ↓reduceIte, f2]) (by first | (simp only [↓gaW, ↓gaV, ↓gaC, ↓gaN, gaP, Nat.reduceEqDiff, Nat.reduceLeDiff, Nat.reduceAdd, Nat.reduceSub, Nat.reduceMul, Int.reduceLT, Int.reduceLE, Int.reduceEq, Int.reduceToNat, Int.reduceAdd, Int.reduceSub, Int.reduceMul, reduceCtorEq, ↓reduceIte]; done) | (simp only [↓gaW, ↓gaV, ↓gaC, ↓gaN, gaP, Nat.reduceEqDiff, Nat.reduceLeDiff, Nat.reduceAdd, Nat.reduceSub, Nat.reduceMul, Int.reduceLT, Int.reduceLE, Int.reduceEq, Int.reduceToNat, Int.reduceAdd, Int.reduceSub, Int.reduceMul, reduceCtorEq, ↓reduceIte]; rfl)) (by simp only [upd_e, if_true]) (by omega) (fun p hp => by rw [ext _ _ p (by omega), hF p hp]) ⟨rfl, by omega⟩
    simp only [↓gaW, ↓gaV, ↓gaC, ↓gaN, gaP, Nat.reduceEqDiff, Nat.reduceLeDiff, Nat.reduceAdd, Nat.reduceSub, Nat.reduceMul, Int.reduceLT, Int.reduceLE, Int.reduceEq, Int.reduceToNat, Int.reduceAdd, Int.reduceSub, Int.reduceMul, reduceCtorEq, ↓reduceIte, List.getD_cons_zero, List.getD_cons_succ, fillL, splice, List.take_zero, List.drop_zero, List.drop_succ_cons, List.take_succ_cons, List.drop_nil, List.take_nil, gaU, f0, f2, f10, f11, hlt, decide_true, decide_false, hL, c0, h1, h2, i2, loopK_n]
    repeat refine And.intro (by omega) ?_
    exact ⟨s.size - (i + 1), by omega, i + 1, rfl, by omega, by rw [take_snoc (by omega), List.all_append, hal, ← hz]; simp [okC]; omega⟩
  · have hin : i = L.length := by omega
    rw [hin, List.take_length] at hal
    have hr : textR L = .ok ⟨22, L, .nil⟩ := if_pos ⟨by omega, hal⟩
    rw [hr]
    simp only [↓gaW, ↓gaV, ↓gaC, ↓gaN, gaP, Nat.reduceEqDiff, Nat.reduceLeDiff, Nat.reduceAdd, Nat.reduceSub, Nat.reduceMul, Int.reduceLT, Int.reduceLE, Int.reduceEq, Int.reduceToNat, Int.reduceAdd, Int.reduceSub, Int.reduceMul, reduceCtorEq, ↓reduceIte, List.getD_cons_zero, List.getD_cons_succ, fillL, splice, List.take_zero, List.drop_zero, List.drop_succ_cons, List.take_succ_cons, List.drop_nil, List.take_nil, gaU, f0, f2, f10, f11, hlt, decide_false, hL, hb0, hnn]
    repeat refine And.intro (by omega) ?_
    refine And.intro (node_cells _ _ _ _ _ _ _) ?_
    have hS : ∀ p, p < (nx + 1) → upd g0 (nx + 1) (some (.cells (L.map u8V) false)) p = g0 p := fun p hp => by rw [upd_e, if_neg (by omega)]
    refine end_nT (q := nx) (t := 22) (B := some ⟨(nx + 1), 0, some 1⟩) (m := s.size) (d := s.size) (A := none) (n := 0) (c := 0) (ro := false) (w := .int .i64 0) (by simp only [↓gaW, ↓gaV, ↓gaC, ↓gaN, gaP, Nat.reduceEqDiff, Nat.reduceLeDiff, Nat.reduceAdd, Nat.reduceSub, Nat.reduceMul, Int.reduceLT, Int.reduceLE, Int.reduceEq, Int.reduceToNat, Int.reduceAdd, Int.reduceSub, Int.reduceMul, reduceCtorEq, ↓reduceIte, f2]) (by first | (simp only [↓gaW, ↓gaV, ↓gaC, ↓gaN, gaP, Nat.reduceEqDiff, Nat.reduceLeDiff, Nat.reduceAdd, Nat.reduceSub, Nat.reduceMul, Int.reduceLT, Int.reduceLE, Int.reduceEq, Int.reduceToNat, Int.reduceAdd, Int.reduceSub, Int.reduceMul, reduceCtorEq, ↓reduceIte]; done) | (simp only [↓gaW, ↓gaV, ↓gaC, ↓gaN, gaP, Nat.reduceEqDiff, Nat.reduceLeDiff, Nat.reduceAdd, Nat.reduceSub, Nat.reduceMul, Int.reduceLT, Int.reduceLE, Int.reduceEq, Int.reduceToNat, Int.reduceAdd, Int.reduceSub, Int.reduceMul, reduceCtorEq, ↓reduceIte]; rfl)) (by simp only [upd_e, if_true]) (by omega) (fun p hp => by rw [ext _ _ p (by omega), hS p (by omega), hF p hp]) ⟨_, rfl, ?_⟩
    refine NodeIs.leaf (by omega) ⟨⟨fun a h => by injection h with h; subst h; exact .inr rfl, by simp [hlen], fun _ => ⟨⟨(nx + 1), 0, some 1⟩, L.map u8V, false, rfl, Nat.lt_succ_self _, by rw [ext _ _ (nx + 1) (by omega), upd_e, if_pos rfl], by simp [hlen], fun i _ => by rw [Nat.zero_add]⟩⟩, fun _ a ha => by injection ha with ha; subst ha; show nx ≤ (nx + 1); omega⟩ (Nat.le_refl _)
theorem ct_justS {x : Fo.El} {u : Value} {is : Bool} {clo : Nat} {caps : Array Value} {r : Except Nat Fo.El} {B : Option Addr} {m d : Nat} {A : Option Addr} {n c : Nat} {ks : List Value} (h : NdR nx gt x B m d A n c ks) (hxw : x.f.ws < 1000000000) (hyw : ∀ y, r = .ok y → y.f.ws < 1000000000)
    (hclo : ∀ (nx' : Nat) (g : Nat → Option Blk), nx ≤ nx' → (∀ p, p < nx → g p = gt p) → Ct Tryd.prog clo caps.toList nx' g fun v x g => NErr nx' x g v r) :
    Ct Tryd.prog 61 [u, .bool is, nodeV x.t B m d A n c, .func (.func clo) #[] caps] nx gt fun v _ _ => ∃ b : Bool, (b = true ↔ justP is x r) ∧ v = if b then .tuple #[u, .int .i64 0] else .tuple #[.string ⟨([] : List UInt8).toArray⟩, .int .i64 2] := by
  refine Ct.of hmx r_scalar_just_string_ (by simp [c_scalar_just_string_]) fun b hb => ?_
  have hF : ∀ q, q < nx → upd gt nx (some (.cells (nodeL x.t B m d A n c) false)) q = gt q := fun q hq => by simp only [upd_e]; rw [if_neg (by omega)]
  have hb0 : upd gt nx (some (.cells (nodeL x.t B m d A n c) false)) nx = some (.cells (nodeL x.t B m d A n c) false) := by simp only [upd_e, if_true]
  cases is with
  | false =>
    simp only [c_scalar_just_string_, ↓gaW, ↓gaV, ↓gaC, ↓gaN, gaP, Nat.reduceEqDiff, Nat.reduceLeDiff, Nat.reduceAdd, Nat.reduceSub, Nat.reduceMul, Int.reduceLT, Int.reduceLE, Int.reduceEq, Int.reduceToNat, Int.reduceAdd, Int.reduceSub, Int.reduceMul, reduceCtorEq, ↓reduceIte, gaE, implies_true, Nat.le_refl, Int.sub_zero, Nat.sub_zero, Int.le_refl, true_or, or_true, List.getD_cons_zero, List.getD_cons_succ, fillL, splice, List.take_zero, List.drop_zero, List.drop_succ_cons, List.take_succ_cons, List.drop_nil, List.take_nil, gaU, Bool.not_false]
    exact ⟨by omega, hF, false, by simp [justP], rfl⟩
  | true =>
    simp only [c_scalar_just_string_, ↓gaW, ↓gaV, ↓gaC, ↓gaN, gaP, Nat.reduceEqDiff, Nat.reduceLeDiff, Nat.reduceAdd, Nat.reduceSub, Nat.reduceMul, Int.reduceLT, Int.reduceLE, Int.reduceEq, Int.reduceToNat, Int.reduceAdd, Int.reduceSub, Int.reduceMul, reduceCtorEq, ↓reduceIte, List.getD_cons_zero, List.getD_cons_succ, fillL, splice, List.take_zero, List.drop_zero, List.drop_succ_cons, List.take_succ_cons, List.drop_nil, List.take_nil, gaU, Bool.not_true]
    generalize upd gt nx (some (.cells (nodeL x.t B m d A n c) false)) = g0 at *
    refine callK_of (hclo (nx + 1) g0 (by omega) hF) (fun v x1 g1 l1 k1 hC => ?_) (by omega)
    have F1 : ∀ p, p < nx → g1 p = gt p := fun p hp => by rw [k1 p (by omega), hF p hp]
    have hb1 : g1 nx = some (.cells (nodeL x.t B m d A n c) false) := by rw [k1 nx (by omega), hb0]
    have hnx1 : (nx = x1) = False := by simp; omega
    cases r with
    | error e =>
      obtain ⟨rfl, he⟩ := hC
      have he0 : ¬ (e : Int) = 0 := by omega
      simp only [↓gaW, ↓gaV, ↓gaC, ↓gaN, gaP, Nat.reduceEqDiff, Nat.reduceLeDiff, Nat.reduceAdd, Nat.reduceSub, Nat.reduceMul, Int.reduceLT, Int.reduceLE, Int.reduceEq, Int.reduceToNat, Int.reduceAdd, Int.reduceSub, Int.reduceMul, reduceCtorEq, ↓reduceIte, gaE, implies_true, Nat.le_refl, Int.sub_zero, Nat.sub_zero, Int.le_refl, true_or, or_true, List.getD_cons_zero, List.getD_cons_succ, fillL, splice, List.take_zero, List.drop_zero, List.drop_succ_cons, List.take_succ_cons, List.drop_nil, List.take_nil, gaU, he0, decide_false, Bool.not_false]
      repeat refine And.intro (by omega) ?_
      refine And.intro (node_cells _ _ _ _ _ _ _) ?_
      refine ⟨by omega, fun p hp => by rw [if_neg (by omega), if_neg (by omega), F1 p hp], false, by simp [justP], rfl⟩
    | ok y =>
      obtain ⟨u, rfl, B', m', d', A', n', c', ks', rfl, hN⟩ := hC
      obtain ⟨g2, e2⟩ : ∃ g', g' = upd (upd g1 x1 (some (.cells [Value.int .i64 0, .slice none 0 0, .slice none 0 0] false))) x1 (some (.cells (nodeL y.t B' m' d' A' n' c') false)) := ⟨_, rfl⟩
      have G2 : ∀ p, p < x1 → g2 p = g1 p := fun p hp => by rw [e2]; simp only [upd_e]; rw [if_neg (by omega), if_neg (by omega)]
      have hb2 : g2 nx = some (.cells (nodeL x.t B m d A n c) false) := by rw [G2 nx (by omega), hb1]
      have hy := hyw y rfl
      simp only [↓gaW, ↓gaV, ↓gaC, ↓gaN, gaP, Nat.reduceEqDiff, Nat.reduceLeDiff, Nat.reduceAdd, Nat.reduceSub, Nat.reduceMul, Int.reduceLT, Int.reduceLE, Int.reduceEq, Int.reduceToNat, Int.reduceAdd, Int.reduceSub, Int.reduceMul, reduceCtorEq, ↓reduceIte, List.getD_cons_zero, List.getD_cons_succ, fillL, splice, List.take_zero, List.drop_zero, List.drop_succ_cons, List.take_succ_cons, List.drop_nil, List.take_nil, gaU, hnx1, hb1, decide_true, decide_false, Bool.not_true]
      repeat refine And.intro (by omega) ?_
      refine And.intro (node_cells _ _ _ _ _ _ _) ?_
      repeat refine And.intro (by omega) ?_
      rw [← e2]; clear e2
      refine callK_of (ct_same (hN.r.keep (x' := x1 + 1) (by omega) G2) (h.keep (x' := x1 + 1) (by omega) fun p hp => by rw [G2 p (by omega), F1 p hp]) hy hxw) (fun v x3 g3 l3 k3 hC => ?_) (by omega)
      obtain ⟨s, rfl, hs⟩ := hC
      have F3 : ∀ p, p < nx → g3 p = gt p := fun p hp => by rw [k3 p (by omega), G2 p (by omega), F1 p hp]
      cases s with
      | false =>
        simp only [↓gaW, ↓gaV, ↓gaC, ↓gaN, gaP, Nat.reduceEqDiff, Nat.reduceLeDiff, Nat.reduceAdd, Nat.reduceSub, Nat.reduceMul, Int.reduceLT, Int.reduceLE, Int.reduceEq, Int.reduceToNat, Int.reduceAdd, Int.reduceSub, Int.reduceMul, reduceCtorEq, ↓reduceIte, gaE, implies_true, Nat.le_refl, Int.sub_zero, Nat.sub_zero, Int.le_refl, true_or, or_true, List.getD_cons_zero, List.getD_cons_succ, fillL, splice, List.take_zero, List.drop_zero, List.drop_succ_cons, List.take_succ_cons, List.drop_nil, List.take_nil, Bool.not_false]
        refine ⟨by omega, F3, false, ?_, rfl⟩
        simp only [Bool.false_eq_true, false_iff] at hs ⊢
        rintro ⟨_, z, hz, hal⟩
        injection hz with hz; subst hz
        exact hs hal
      | true =>
        simp only [↓gaW, ↓gaV, ↓gaC, ↓gaN, gaP, Nat.reduceEqDiff, Nat.reduceLeDiff, Nat.reduceAdd, Nat.reduceSub, Nat.reduceMul, Int.reduceLT, Int.reduceLE, Int.reduceEq, Int.reduceToNat, Int.reduceAdd, Int.reduceSub, Int.reduceMul, reduceCtorEq, ↓reduceIte, gaE, implies_true, Nat.le_refl, Int.sub_zero, Nat.sub_zero, Int.le_refl, true_or, or_true, List.getD_cons_zero, List.getD_cons_succ, fillL, splice, List.take_zero, List.drop_zero, List.drop_succ_cons, List.take_succ_cons, List.drop_nil, List.take_nil, Bool.not_true]
        exact ⟨by omega, F3, true, by simp only [true_iff]; exact ⟨rfl, y, rfl, hs.1 rfl⟩, rfl⟩
theorem ct_justI {x : Fo.El} {u : Value} {is : Bool} {clo : Nat} {caps : Array Value} {r : Except Nat Fo.El} {B : Option Addr} {m d : Nat} {A : Option Addr} {n c : Nat} {ks : List Value} (h : NdR nx gt x B m d A n c ks) (hxw : x.f.ws < 1000000000) (hyw : ∀ y, r = .ok y → y.f.ws < 1000000000)
    (hclo : ∀ (nx' : Nat) (g : Nat → Option Blk), nx ≤ nx' → (∀ p, p < nx → g p = gt p) → Ct Tryd.prog clo caps.toList nx' g fun v x g => NErr nx' x g v r) :
    Ct Tryd.prog 66 [u, .bool is, nodeV x.t B m d A n c, .func (.func clo) #[] caps] nx gt fun v _ _ => ∃ b : Bool, (b = true ↔ justP is x r) ∧ v = if b then .tuple #[u, .int .i64 0] else .tuple #[.int .i64 0, .int .i64 2] := by
  refine Ct.of hmx r_scalar_just_int64_ (by simp [c_scalar_just_int64_]) fun b hb => ?_
  have hF : ∀ q, q < nx → upd gt nx (some (.cells (nodeL x.t B m d A n c) false)) q = gt q := fun q hq => by simp only [upd_e]; rw [if_neg (by omega)]
  have hb0 : upd gt nx (some (.cells (nodeL x.t B m d A n c) false)) nx = some (.cells (nodeL x.t B m d A n c) false) := by simp only [upd_e, if_true]
  cases is with
  | false =>
    simp only [c_scalar_just_int64_, ↓gaW, ↓gaV, ↓gaC, ↓gaN, gaP, Nat.reduceEqDiff, Nat.reduceLeDiff, Nat.reduceAdd, Nat.reduceSub, Nat.reduceMul, Int.reduceLT, Int.reduceLE, Int.reduceEq, Int.reduceToNat, Int.reduceAdd, Int.reduceSub, Int.reduceMul, reduceCtorEq, ↓reduceIte, gaE, implies_true, Nat.le_refl, Int.sub_zero, Nat.sub_zero, Int.le_refl, true_or, or_true, List.getD_cons_zero, List.getD_cons_succ, fillL, splice, List.take_zero, List.drop_zero, List.drop_succ_cons, List.take_succ_cons, List.drop_nil, List.take_nil, gaU, Bool.not_false]
    exact ⟨by omega, hF, false, by simp [justP], rfl⟩
  | true =>
    simp only [c_scalar_just_int64_, ↓gaW, ↓gaV, ↓gaC, ↓gaN, gaP, Nat.reduceEqDiff, Nat.reduceLeDiff, Nat.reduceAdd, Nat.reduceSub, Nat.reduceMul, Int.reduceLT, Int.reduceLE, Int.reduceEq, Int.reduceToNat, Int.reduceAdd, Int.reduceSub, Int.reduceMul, reduceCtorEq, ↓reduceIte, List.getD_cons_zero, List.getD_cons_succ, fillL, splice, List.take_zero, List.drop_zero, List.drop_succ_cons, List.take_succ_cons, List.drop_nil, List.take_nil, gaU, Bool.not_true]
    generalize upd gt nx (some (.cells (nodeL x.t B m d A n c) false)) = g0 at *
    refine callK_of (hclo (nx + 1) g0 (by omega) hF) (fun v x1 g1 l1 k1 hC => ?_) (by omega)
    have F1 : ∀ p, p < nx → g1 p = gt p := fun p hp => by rw [k1 p (by omega), hF p hp]
    have hb1 : g1 nx = some (.cells (nodeL x.t B m d A n c) false) := by rw [k1 nx (by omega), hb0]
    have hnx1 : (nx = x1) = False := by simp; omega
    cases r with
    | error e =>
      obtain ⟨rfl, he⟩ := hC
      have he0 : ¬ (e : Int) = 0 := by omega
      simp only [↓gaW, ↓gaV, ↓gaC, ↓gaN, gaP, Nat.reduceEqDiff, Nat.reduceLeDiff, Nat.reduceAdd, Nat.reduceSub, Nat.reduceMul, Int.reduceLT, Int.reduceLE, Int.reduceEq, Int.reduceToNat, Int.reduceAdd, Int.reduceSub, Int.reduceMul, reduceCtorEq, ↓reduceIte, gaE, implies_true, Nat.le_refl, Int.sub_zero, Nat.sub_zero, Int.le_refl, true_or, or_true, List.getD_cons_zero, List.getD_cons_succ, fillL, splice, List.take_zero, List.drop_zero, List.drop_succ_cons, List.take_succ_cons, List.drop_nil, List.take_nil, gaU, he0, decide_false, Bool.not_false]
      repeat refine And.intro (by omega) ?_
      refine And.intro (node_cells _ _ _ _ _ _ _) ?_
      refine ⟨by omega, fun p hp => by rw [if_neg (by omega), if_neg (by omega), F1 p hp], false, by simp [justP], rfl⟩
    | ok y =>
      obtain ⟨u, rfl, B', m', d', A', n', c', ks', rfl, hN⟩ := hC
      obtain ⟨g2, e2⟩ : ∃ g', g' = upd (upd g1 x1 (some (.cells [Value.int .i64 0, .slice none 0 0, .slice none 0 0] false))) x1 (some (.cells (nodeL y.t B' m' d' A' n' c') false)) := ⟨_, rfl⟩
      have G2 : ∀ p, p < x1 → g2 p = g1 p := fun p hp => by rw [e2]; simp only [upd_e]; rw [if_neg (by omega), if_neg (by omega)]
      have hb2 : g2 nx = some (.cells (nodeL x.t B m d A n c) false) := by rw [G2 nx (by omega), hb1]
      have hy := hyw y rfl
      simp only [↓gaW, ↓gaV, ↓gaC, ↓gaN, gaP, Nat.reduceEqDiff, Nat.reduceLeDiff, Nat.reduceAdd, Nat.reduceSub, Nat.reduceMul, Int.reduceLT, Int.reduceLE, Int.reduceEq, Int.reduceToNat, Int.reduceAdd, Int.reduceSub, Int.reduceMul, reduceCtorEq, ↓reduceIte, List.getD_cons_zero, List.getD_cons_succ, fillL, splice, List.take_zero, List.drop_zero, List.drop_succ_cons, List.take_succ_cons, List.drop_nil, List.take_nil, gaU, hnx1, hb1, decide_true, decide_false, Bool.not_true]
      repeat refine And.intro (by omega) ?_
      refine And.intro (node_cells _ _ _ _ _ _ _) ?_
      repeat refine And.intro (by omega) ?_
      rw [← e2]; clear e2
      refine callK_of (ct_same (hN.r.keep (x' := x1 + 1) (by omega) G2) (h.keep (x' := x1 + 1) (by omega) fun p hp => by rw [G2 p (by omega), F1 p hp]) hy hxw) (fun v x3 g3 l3 k3 hC => ?_) (by omega)
      obtain ⟨s, rfl, hs⟩ := hC
      have F3 : ∀ p, p < nx → g3 p = gt p := fun p hp => by rw [k3 p (by omega), G2 p (by omega), F1 p hp]
      cases s with
      | false =>
        simp only [↓gaW, ↓gaV, ↓gaC, ↓gaN, gaP, Nat.reduceEqDiff, Nat.reduceLeDiff, Nat.reduceAdd, Nat.reduceSub, Nat.reduceMul, Int.reduceLT, Int.reduceLE, Int.reduceEq, Int.reduceToNat, Int.reduceAdd, Int.reduceSub, Int.reduceMul, reduceCtorEq, ↓reduceIte, gaE, implies_true, Nat.le_refl, Int.sub_zero, Nat.sub_zero, Int.le_refl, true_or, or_true, List.getD_cons_zero, List.getD_cons_succ, fillL, splice, List.take_zero, List.drop_zero, List.drop_succ_cons, List.take_succ_cons, List.drop_nil, List.take_nil, Bool.not_false]
        refine ⟨by omega, F3, false, ?_, rfl⟩
        simp only [Bool.false_eq_true, false_iff] at hs ⊢
        rintro ⟨_, z, hz, hal⟩
        injection hz with hz; subst hz
        exact hs hal
      | true =>
        simp only [↓gaW, ↓gaV, ↓gaC, ↓gaN, gaP, Nat.reduceEqDiff, Nat.reduceLeDiff, Nat.reduceAdd, Nat.reduceSub, Nat.reduceMul, Int.reduceLT, Int.reduceLE, Int.reduceEq, Int.reduceToNat, Int.reduceAdd, Int.reduceSub, Int.reduceMul, reduceCtorEq, ↓reduceIte, gaE, implies_true, Nat.le_refl, Int.sub_zero, Nat.sub_zero, Int.le_refl, true_or, or_true, List.getD_cons_zero, List.getD_cons_succ, fillL, splice, List.take_zero, List.drop_zero, List.drop_succ_cons, List.take_succ_cons, List.drop_nil, List.take_nil, Bool.not_true]
        exact ⟨by omega, F3, true, by simp only [true_iff]; exact ⟨rfl, y, rfl, hs.1 rfl⟩, rfl⟩
end
end Go.Ga

/- Words of elements. -/
namespace Go.Ga
open Go Go.Proofs
set_option linter.unusedSimpArgs false
set_option linter.unusedVariables false
set_option maxRecDepth 100000
attribute [local irreducible] appendK

section
variable {nx : Nat} {gt : Nat → Option Blk}

theorem ct_Words1 {q : Nat} {ro : Bool} {l : List UInt8} (hq : q < nx) (hg : gt q = some (.cells [strV l] ro)) (hl : l.length ≤ 1000000) :
    Ct Tryd.prog 62 [.pointer (some ⟨q, 0, none⟩)] nx gt fun v x g => NErr nx x g v (textR l) := by
  refine Ct.of hmx r_scalar_Words_1 (by simp [c_scalar_Words_1]) fun b hb => ?_
  have hF : ∀ q, q < nx → upd gt nx (some (.cells [Value.int .i64 0, .slice none 0 0, .slice none 0 0] false)) q = gt q := fun q hq => by simp only [upd_e]; rw [if_neg (by omega)]
  have hb0 : upd gt nx (some (.cells [Value.int .i64 0, .slice none 0 0, .slice none 0 0] false)) nx = some (.cells [Value.int .i64 0, .slice none 0 0, .slice none 0 0] false) := by simp only [upd_e, if_true]
  have hqn : (q = nx) = False := by simp; omega
  simp only [c_scalar_Words_1, ↓gaW, ↓gaV, ↓gaC, ↓gaN, gaP, Nat.reduceEqDiff, Nat.reduceLeDiff, Nat.reduceAdd, Nat.reduceSub, Nat.reduceMul, Int.reduceLT, Int.reduceLE, Int.reduceEq, Int.reduceToNat, Int.reduceAdd, Int.reduceSub, Int.reduceMul, reduceCtorEq, ↓reduceIte, List.getD_cons_zero, List.getD_cons_succ, fillL, splice, List.take_zero, List.drop_zero, List.drop_succ_cons, List.take_succ_cons, List.drop_nil, List.take_nil, gaU, hqn, hg, List.getD_cons_zero]
  generalize upd gt nx (some (.cells [Value.int .i64 0, .slice none 0 0, .slice none 0 0] false)) = g0 at *
  repeat refine And.intro (by omega) ?_
  refine callK_of (ct_TextE (s := ⟨l.toArray⟩) hl) (fun v x1 g1 l1 k1 hC => ?_) (by omega)
  have F1 : ∀ p, p < nx → g1 p = gt p := fun p hp => by rw [k1 p (by omega), hF p hp]
  have hb1 : g1 nx = some (.cells [Value.int .i64 0, .slice none 0 0, .slice none 0 0] false) := by rw [k1 nx (by omega), hb0]
  have ext : ∀ (cs : List Value), (∀ p, p ≠ nx → upd g1 nx (some (.cells cs false)) p = g1 p) := fun cs p hp => by simp only [upd_e]; rw [if_neg hp]
  cases hr : textR l with
  | error e =>
    rw [hr] at hC
    obtain ⟨rfl, he⟩ := hC
    simp only [↓gaW, ↓gaV, ↓gaC, ↓gaN, gaP, Nat.reduceEqDiff, Nat.reduceLeDiff, Nat.reduceAdd, Nat.reduceSub, Nat.reduceMul, Int.reduceLT, Int.reduceLE, Int.reduceEq, Int.reduceToNat, Int.reduceAdd, Int.reduceSub, Int.reduceMul, reduceCtorEq, ↓reduceIte, List.getD_cons_zero, List.getD_cons_succ, fillL, splice, List.take_zero, List.drop_zero, List.drop_succ_cons, List.take_succ_cons, List.drop_nil, List.take_nil, hb1]
    repeat refine And.intro (by omega) ?_
    refine And.intro (node_cells _ _ _ _ _ _ _) ?_
    exact end_nT (q := nx) (t := 0) (B := none) (m := 0) (d := 0) (A := none) (n := 0) (c := 0) (ro := false) (w := .int .i64 e) (by first | (simp only [↓gaW, ↓gaV, ↓gaC, ↓gaN, gaP, Nat.reduceEqDiff, Nat.reduceLeDiff, Nat.reduceAdd, Nat.reduceSub, Nat.reduceMul, Int.reduceLT, Int.reduceLE, Int.reduceEq, Int.reduceToNat, Int.reduceAdd, Int.reduceSub, Int.reduceMul, reduceCtorEq, ↓reduceIte]; done) | (simp only [↓gaW, ↓gaV, ↓gaC, ↓gaN, gaP, Nat.reduceEqDiff, Nat.reduceLeDiff, Nat.reduceAdd, Nat.reduceSub, Nat.reduceMul, Int.reduceLT, Int.reduceLE, Int.reduceEq, Int.reduceToNat, Int.reduceAdd, Int.reduceSub, Int.reduceMul, reduceCtorEq, ↓reduceIte]; rfl)) (by first | (simp only [↓gaW, ↓gaV, ↓gaC, ↓gaN, gaP, Nat.reduceEqDiff, Nat.reduceLeDiff, Nat.reduceAdd, Nat.reduceSub, Nat.reduceMul, Int.reduceLT, Int.reduceLE, Int.reduceEq, Int.reduceToNat, Int.reduceAdd, Int.reduceSub, Int.reduceMul, reduceCtorEq, ↓reduceIte]; done) | (simp only [↓gaW, ↓gaV, ↓gaC, ↓gaN, gaP, Nat.reduceEqDiff, Nat.reduceLeDiff, Nat.reduceAdd, Nat.reduceSub, Nat.reduceMul, Int.reduceLT, Int.reduceLE, Int.reduceEq, Int.reduceToNat, Int.reduceAdd, Int.reduceSub, Int.reduceMul, reduceCtorEq, ↓reduceIte]; rfl)) (by simp only [upd_e, if_true]) (by omega) (fun p hp => by rw [ext _ p (by omega), F1 p hp]) ⟨rfl, he⟩
  | ok y =>
    rw [hr] at hC
    obtain ⟨u, rfl, B, m, d, A, n, c, ks, rfl, hN⟩ := hC
    simp only [↓gaW, ↓gaV, ↓gaC, ↓gaN, gaP, Nat.reduceEqDiff, Nat.reduceLeDiff, Nat.reduceAdd, Nat.reduceSub, Nat.reduceMul, Int.reduceLT, Int.reduceLE, Int.reduceEq, Int.reduceToNat, Int.reduceAdd, Int.reduceSub, Int.reduceMul, reduceCtorEq, ↓reduceIte, List.getD_cons_zero, List.getD_cons_succ, fillL, splice, List.take_zero, List.drop_zero, List.drop_succ_cons, List.take_succ_cons, List.drop_nil, List.take_nil, hb1]
    repeat refine And.intro (by omega) ?_
    refine And.intro (node_cells _ _ _ _ _ _ _) ?_
    exact end_nT (q := nx) (t := y.t) (B := B) (m := m) (d := d) (A := A) (n := n) (c := c) (ro := false) (w := .int .i64 0) (by first | (simp only [↓gaW, ↓gaV, ↓gaC, ↓gaN, gaP, Nat.reduceEqDiff, Nat.reduceLeDiff, Nat.reduceAdd, Nat.reduceSub, Nat.reduceMul, Int.reduceLT, Int.reduceLE, Int.reduceEq, Int.reduceToNat, Int.reduceAdd, Int.reduceSub, Int.reduceMul, reduceCtorEq, ↓reduceIte]; done) | (simp only [↓gaW, ↓gaV, ↓gaC, ↓gaN, gaP, Nat.reduceEqDiff, Nat.reduceLeDiff, Nat.reduceAdd, Nat.reduceSub, Nat.reduceMul, Int.reduceLT, Int.reduceLE, Int.reduceEq, Int.reduceToNat, Int.reduceAdd, Int.reduceSub, Int.reduceMul, reduceCtorEq, ↓reduceIte]; rfl)) (by first | (simp only [↓gaW, ↓gaV, ↓gaC, ↓gaN, gaP, Nat.reduceEqDiff, Nat.reduceLeDiff, Nat.reduceAdd, Nat.reduceSub, Nat.reduceMul, Int.reduceLT, Int.reduceLE, Int.reduceEq, Int.reduceToNat, Int.reduceAdd, Int.reduceSub, Int.reduceMul, reduceCtorEq, ↓reduceIte]; done) | (simp only [↓gaW, ↓gaV, ↓gaC, ↓gaN, gaP, Nat.reduceEqDiff, Nat.reduceLeDiff, Nat.reduceAdd, Nat.reduceSub, Nat.reduceMul, Int.reduceLT, Int.reduceLE, Int.reduceEq, Int.reduceToNat, Int.reduceAdd, Int.reduceSub, Int.reduceMul, reduceCtorEq, ↓reduceIte]; rfl)) (by simp only [upd_e, if_true]) (by omega) (fun p hp => by rw [ext _ p (by omega), F1 p hp]) ⟨_, rfl, B, m, d, A, n, c, ks, rfl, (hN.keep (Nat.le_refl _) fun p hp _ => ext _ p (by omega)).wid (by omega)⟩

theorem ct_Words {x : Fo.El} {B : Option Addr} {m d : Nat} {A : Option Addr} {n c : Nat} {ks : List Value} (h : NdR nx gt x B m d A n c ks) (hxw : x.f.ws < 900000) :
    Ct Tryd.prog 35 [nodeV x.t B m d A n c] nx gt fun v _ _ => v = .tuple #[strV (wordsR x).1, .int .i64 ((wordsR x).2 : Nat)] := by
  refine Ct.of hmx r_scalar_Words (by simp [c_scalar_Words]) fun b hb => ?_
  have hF : ∀ q, q < nx → upd gt nx (some (.cells (nodeL x.t B m d A n c) false)) q = gt q := fun q hq => by simp only [upd_e]; rw [if_neg (by omega)]
  have hb0 : upd gt nx (some (.cells (nodeL x.t B m d A n c) false)) nx = some (.cells (nodeL x.t B m d A n c) false) := by simp only [upd_e, if_true]
  have xw : x.f.ws = 1 + x.b.length + x.k.ws := by simp only [Fo.El.f, Fo.ws]; omega
  have lw := Fo.len_ws x.k
  have hl := h.blen
  have hkl := h.len
  have hnn : (nx = nx + 1) = False := by simp
  have e1 : rowOf ⟨nx + 1, b, upd gt nx (some (.cells (nodeL x.t B m d A n c) false))⟩ B m = some (x.b.map u8V) := (h.body.keep (nx' := nx + 1) (by omega) hF).rowOf
  have e1' : rowOf ⟨nx + 1, b, upd gt nx (some (.cells [Value.int .i64 x.t, .slice B m d, .slice A n c] false))⟩ B m = some (x.b.map u8V) := e1
  simp only [c_scalar_Words, ↓gaW, ↓gaV, ↓gaC, ↓gaN, gaP, Nat.reduceEqDiff, Nat.reduceLeDiff, Nat.reduceAdd, Nat.reduceSub, Nat.reduceMul, Int.reduceLT, Int.reduceLE, Int.reduceEq, Int.reduceToNat, Int.reduceAdd, Int.reduceSub, Int.reduceMul, reduceCtorEq, ↓reduceIte, List.getD_cons_zero, List.getD_cons_succ, fillL, splice, List.take_zero, List.drop_zero, List.drop_succ_cons, List.take_succ_cons, List.drop_nil, List.take_nil, gaU, hnn, e1, e1', bytesOf_map]
  generalize upd gt nx (some (.cells (nodeL x.t B m d A n c) false)) = g0 at *
  repeat refine And.intro (by omega) ?_
  refine And.intro (all1 rfl) ?_
  repeat refine And.intro (by omega) ?_
  obtain ⟨g2, e2, G2, hb2⟩ := boxed (g := g0) (x := nx + 1) (cs := [Value.string ⟨#[]⟩]) (ds := [strV x.b])
  have e2' : upd (upd g0 (nx + 1) (some (.cells [Value.string ⟨#[]⟩] false))) (nx + 1) (some (.cells [Value.string ⟨x.b.toArray⟩] false)) = g2 := e2.symm
  rw [e2']; clear e2 e2'
  have hN2 := h.keep (x' := nx + 2) (g := g2) (by omega) fun p hp => by rw [G2 p (by omega), hF p hp]
  refine callK_of (ct_justS (r := textR x.b) hN2 (by omega) (fun y' hy' => by have := textR_ws hy'; omega) (fun nx' g h1 h2 => ct_Words1 (q := nx + 1) (by omega) (by rw [h2 (nx + 1) (by omega), hb2]) (by omega))) (fun v x3 g3 l3 k3 hC => ?_) (by omega)
  obtain ⟨bb, hbb, rfl⟩ := hC
  have F3 : ∀ p, p < nx → g3 p = gt p := fun p hp => by rw [k3 p (by omega), G2 p (by omega), hF p hp]
  have hj : justP true x (textR x.b) ↔ textR x.b = .ok x := by
    unfold justP
    constructor
    · rintro ⟨_, z, h2, h3⟩
      rw [h2, (alike_eq (textR_k h2)).1 h3]
    · intro h1
      exact ⟨rfl, x, h1, (alike_eq (textR_k h1)).2 rfl⟩
  cases bb with
  | true =>
    have er : wordsR x = (x.b, 0) := if_pos (hj.1 (hbb.1 rfl))
    simp only [↓gaW, ↓gaV, ↓gaC, ↓gaN, gaP, Nat.reduceEqDiff, Nat.reduceLeDiff, Nat.reduceAdd, Nat.reduceSub, Nat.reduceMul, Int.reduceLT, Int.reduceLE, Int.reduceEq, Int.reduceToNat, Int.reduceAdd, Int.reduceSub, Int.reduceMul, reduceCtorEq, ↓reduceIte, gaE, implies_true, Nat.le_refl, Int.sub_zero, Nat.sub_zero, Int.le_refl, true_or, or_true, List.getD_cons_zero, List.getD_cons_succ, fillL, splice, List.take_zero, List.drop_zero, List.drop_succ_cons, List.take_succ_cons, List.drop_nil, List.take_nil, if_true, er]
    repeat refine And.intro (by omega) ?_
    first | exact F3 | exact ⟨F3, rfl⟩ | exact rfl
  | false =>
    have er : wordsR x = ([], 2) := if_neg fun hc => by have := hbb.2 (hj.2 hc); cases this
    simp only [↓gaW, ↓gaV, ↓gaC, ↓gaN, gaP, Nat.reduceEqDiff, Nat.reduceLeDiff, Nat.reduceAdd, Nat.reduceSub, Nat.reduceMul, Int.reduceLT, Int.reduceLE, Int.reduceEq, Int.reduceToNat, Int.reduceAdd, Int.reduceSub, Int.reduceMul, reduceCtorEq, ↓reduceIte, gaE, implies_true, Nat.le_refl, Int.sub_zero, Nat.sub_zero, Int.le_refl, true_or, or_true, List.getD_cons_zero, List.getD_cons_succ, fillL, splice, List.take_zero, List.drop_zero, List.drop_succ_cons, List.take_succ_cons, List.drop_nil, List.take_nil, Bool.false_eq_true, if_false, er]
    repeat refine And.intro (by omega) ?_
    first | exact F3 | exact ⟨F3, rfl⟩ | exact rfl

end
end Go.Ga
