/- Words and contracts of functions for the statement's proof. No condition. -/
import Derived.Test.YtgkineipmhhacaaDoorA3
import Derived.Test.YtgkineipmhhacaaDoorProg
import Derived.KernelRfl
set_option linter.all false

/- An element that a law is given. -/
namespace Go.Ga
open Go

theorem list_three {cs : List Value} {a b c : Value} (hl : cs.length = 3) (h0 : (cs.drop 0).take 1 = [a]) (h1 : (cs.drop 1).take 1 = [b]) (h2 : (cs.drop 2).take 1 = [c]) : cs = [a, b, c] := by
  match cs, hl with
  | [x, y, z], _ =>
    simp at h0 h1 h2
    rw [h0, h1, h2]

section
variable {H : Type} {enc : TypeId × Value → H} {P : Program} {w : World} {held : Bool} {t : TypeId}

/-- The types of a node, as the program has them. -/
structure NodeT (P : Program) (t ti tb tk te : TypeId) : Prop where
  str : ∃ fs : Array Field, P.underlying t = some (.struct fs) ∧ (fs[0]?).map (fun f => (f.type, f.offset)) = some (ti, 0) ∧ (fs[1]?).map (fun f => (f.type, f.offset)) = some (tb, 1) ∧ (fs[2]?).map (fun f => (f.type, f.offset)) = some (tk, 2)
  int : P.underlying ti = some (.int .i64)
  bytes : P.underlying tb = some (.slice te)
  byte : P.underlying te = some (.int .u8)
  kids : P.underlying tk = some (.slice t)
  ct : P.cellsOf t = 3
  ci : P.cellsOf ti = 1
  cb : P.cellsOf tb = 1
  ce : P.cellsOf te = 1
  ck : P.cellsOf tk = 1

theorem Shp.nodes {f : Nat} {t ti tb tk te : TypeId} (hT : NodeT P t ti tb tk te) (hnode : ∀ cs, Shp enc P w held f t cs → ∃ (x : Fo.El) (B : Option Addr) (m d : Nat) (A : Option Addr) (n c : Nat) (ks : List Value), cs.map (absC w) = nodeL x.t B m d A n c ∧ NdR w.heap.size (m0 w).get x B m d A n c ks)
    {cs : List Value} {tk' : TypeId} (hk : P.underlying tk' = some (.slice t)) (h : Shp enc P w held (f + 1) tk' cs) :
    ∃ (v : Value) (A : Option Addr) (n c : Nat) (F : Fo) (ks : List Value), cs = [v] ∧ absC w v = .slice A n c ∧ n ≤ c ∧ n = F.len ∧ Row w.heap.size (m0 w).get 3 A (n * 3) ks ∧ FoR w.heap.size (m0 w).get F ks := by
  obtain ⟨n, v, A, len, cap, l, hf, rfl, h2, h3, h4, h5, h6⟩ := h.slice hk (by rw [hT.ct]; omega)
  injection hf with hf
  subst hf
  rw [hT.ct] at h4 h5 h6
  have key : ∀ i, i ≤ len → ∃ F : Fo, F.len = i ∧ FoR w.heap.size (m0 w).get F ((l.map (absC w)).take (i * 3)) := by
    intro i
    induction i with
    | zero => intro _; exact ⟨.nil, rfl, by rw [Nat.zero_mul]; rfl⟩
    | succ i ih =>
      intro hi
      obtain ⟨F, e1, e2⟩ := ih (by omega)
      obtain ⟨x, B, m, d, A', n', c', ks', g1, g2⟩ := hnode _ (h6 i (by omega))
      refine ⟨F.app x.f, by rw [Fo.len_app, e1]; rfl, ?_⟩
      have e : (l.map (absC w)).take ((i + 1) * 3) = (l.map (absC w)).take (i * 3) ++ nodeL x.t B m d A' n' c' := by
        rw [← g1, Nat.add_mul, Nat.one_mul, List.take_add, List.map_take, List.map_drop]
      rw [e]
      exact e2.app g2.one
  obtain ⟨F, e1, e2⟩ := key len (Nat.le_refl _)
  rw [List.take_of_length_le (by simp; omega)] at e2
  exact ⟨v, A, len, cap, F, _, rfl, h2, h3, e1.symm, h4, e2⟩

theorem Shp.node {t ti tb tk te : TypeId} (hT : NodeT P t ti tb tk te) : ∀ (f : Nat) (cs : List Value), Shp enc P w held f t cs →
    ∃ (x : Fo.El) (B : Option Addr) (m d : Nat) (A : Option Addr) (n c : Nat) (ks : List Value), cs.map (absC w) = nodeL x.t B m d A n c ∧ NdR w.heap.size (m0 w).get x B m d A n c ks := by
  intro f
  induction f using Nat.strongRecOn with
  | ind f ih =>
    intro cs h
    obtain ⟨fs, hs, h0, h1, h2⟩ := hT.str
    obtain ⟨k, rfl, hl, hfl⟩ := h.struct hs
    simp only [Option.map_eq_some_iff] at h0 h1 h2
    obtain ⟨f0, e0, e0'⟩ := h0
    obtain ⟨f1, e1, e1'⟩ := h1
    obtain ⟨f2, e2, e2'⟩ := h2
    injection e0' with a0 b0
    injection e1' with a1 b1
    injection e2' with a2 b2
    have g0 := hfl 0 f0 e0
    have g1 := hfl 1 f1 e1
    have g2 := hfl 2 f2 e2
    rw [hT.ct] at hl
    rw [a0, b0, hT.ci, take_one (by omega)] at g0
    rw [a1, b1, hT.cb, take_one (by omega)] at g1
    rw [a2, b2, hT.ck, take_one (by omega)] at g2
    obtain ⟨z, z1, z2⟩ := g0.int hT.int
    obtain ⟨vb, B, m, d, lb, q0, q1, q2, q3⟩ := g1.bytes hT.bytes hT.byte hT.ce
    cases k with
    | zero =>
      obtain ⟨y, hy⟩ := g2
      rcases DataW.trod_slice hT.kids hy with ⟨_, h⟩ | ⟨a, len, cap, elems, rest, n, h, _⟩
      · simp [DataW.trod] at hy
      · simp [DataW.trod] at hy
    | succ k =>
      obtain ⟨vk, A, n, c, F, ks, p0, p1, p2, p3, p4, p5⟩ := g2.nodes hT (ih k (by omega)) hT.kids
      injection z1 with z1
      injection q0 with q0
      injection p0 with p0
      refine ⟨⟨z, lb, F⟩, B, m, d, A, n, c, ks, ?_, ⟨wf_i64 z2, q3, q2, p4, p2, p3, p5⟩⟩
      have hcs : cs = [cs[0], cs[1], cs[2]] := list_three hl (take_one (by omega)) (take_one (by omega)) (take_one (by omega))
      rw [hcs, z1, q0, p0]
      simp only [List.map_cons, List.map_nil, q1, p1]
      simp [absC, goodV]

theorem open_node {t ti tb tk te : TypeId} (hT : NodeT P t ti tb tk te) {r : Reach} {b0 : Nat} {v : Value} {d : DataW H} {ps : List MemPlace} (hval : Value.okWide P w r b0 t v) (hd : DataW.Trod enc P w 0 (fun _ => true) held t v d ps) :
    ∃ (x : Fo.El) (B : Option Addr) (m d : Nat) (A : Option Addr) (n c : Nat) (ks : List Value), absV w v = nodeV x.t B m d A n c ∧ NdR w.heap.size (m0 w).get x B m d A n c ks := by
  obtain ⟨fs, hs, _⟩ := hT.str
  simp only [Value.okWide, hs] at hval
  obtain ⟨cs, rfl, hcs, _⟩ := hval
  obtain ⟨fuel, hf⟩ := hd
  obtain ⟨x, B, m, d, A, n, c, ks, h1, h2⟩ := Shp.node hT _ _ ⟨_, hf⟩
  refine ⟨x, B, m, d, A, n, c, ks, ?_, h2⟩
  simp only [Value.cells] at h1
  simp only [absV]
  congr 1
  apply Array.ext'
  simpa using h1

end
end Go.Ga

/- The law ScalarNumbers. -/
namespace Go.Ga
open Go Go.Proofs
set_option linter.unusedSimpArgs false
set_option linter.unusedVariables false
set_option maxRecDepth 100000
attribute [local irreducible] appendK

def fieldsOf : Option TypeDesc → Array Field
  | some (.struct fs) => fs
  | _ => #[]
theorem nodeT : NodeT Tryd.prog 26 3 23 24 5 :=
  ⟨⟨fieldsOf (Tryd.prog.underlying 26), by kernel_rfl, by kernel_rfl, by kernel_rfl, by kernel_rfl⟩, by kernel_rfl, by kernel_rfl, by kernel_rfl, by kernel_rfl, by kernel_rfl, by kernel_rfl, by kernel_rfl, by kernel_rfl, by kernel_rfl⟩

section
variable {nx : Nat} {gt : Nat → Option Blk}


end
end Go.Ga

namespace Go.Ga
open Go Go.Proofs
set_option maxRecDepth 100000

def c_scalar_Bits : RFn :=
  ⟨46,
  (.seq
  (.ops [] [
  ⟨(some 4), (.op (.new [(.int .i64 0), (.slice none 0 0), (.slice none 0 0)])), none⟩,
  ⟨(some 5), (.op (.mv (.k (.int .i64 0)))), none⟩])
  (.seq
  (.ops [] [
  ⟨(some 7), (.op (.mv (.t 0))), none⟩,
  ⟨(some 8), (.op (.lenSl (.t 7))), none⟩,
  ⟨(some 9), (.op (.bin .mul (.k (.int .i64 8)) (.t 8))), none⟩,
  ⟨(some 10), (.op (.mv (.t 1))), none⟩,
  ⟨(some 11), (.op (.bin .sub (.t 9) (.t 10))), none⟩,
  ⟨(some 6), (.op (.mv (.t 11))), none⟩])
  (.seq
  (.seq
  (.ops [
  ⟨(some 12), (.op (.mv (.t 1))), none⟩,
  ⟨(some 13), (.op (.bin .lss (.t 12) (.k (.int .i64 0)))), none⟩,
  ⟨(some 14), (.op (.mv (.t 13))), none⟩,
  ⟨(some 15), (.op (.mv (.t 6))), (some (14, false))⟩,
  ⟨(some 16), (.op (.bin .lss (.t 15) (.k (.int .i64 0)))), (some (14, false))⟩,
  ⟨(some 17), (.op (.pick (.t 14) (.k (.bool true)) (.t 16))), none⟩,
  ⟨(some 18), (.op (.mv (.t 17))), none⟩,
  ⟨(some 19), (.op (.mv (.t 6))), (some (18, false))⟩,
  ⟨(some 20), (.op (.bin .gtr (.t 19) (.k (.int .i64 7)))), (some (18, false))⟩,
  ⟨(some 21), (.op (.pick (.t 18) (.k (.bool true)) (.t 20))), none⟩,
  ⟨(some 22), (.op (.mv (.t 21))), none⟩,
  ⟨(some 23), (.op (.mv (.t 6))), (some (22, false))⟩,
  ⟨(some 24), (.op (.bin .gtr (.t 23) (.k (.int .i64 0)))), (some (22, false))⟩,
  ⟨(some 25), (.op (.mv (.t 24))), (some (22, false))⟩,
  ⟨(some 26), (.op (.mv (.t 0))), (some (25, true))⟩,
  ⟨(some 27), (.op (.mv (.t 0))), (some (25, true))⟩,
  ⟨(some 28), (.op (.lenSl (.t 27))), (some (25, true))⟩,
  ⟨(some 29), (.op (.bin .sub (.t 28) (.k (.int .i64 1)))), (some (25, true))⟩,
  ⟨(some 30), (.op (.ixAddr 1 (.t 26) (.t 29))), (some (25, true))⟩,
  ⟨(some 31), (.op (.load1 (.t 30))), (some (25, true))⟩,
  ⟨(some 32), (.op (.mv (.t 6))), (some (25, true))⟩,
  ⟨(some 33), (.op (.bin .shl (.k (.int .u8 1)) (.t 32))), (some (25, true))⟩,
  ⟨(some 34), (.op (.bin .sub (.t 33) (.k (.int .u8 1)))), (some (25, true))⟩] [
  ⟨(some 35), (.op (.bin .and (.t 31) (.t 34))), (some (25, true))⟩,
  ⟨(some 36), (.op (.bin .neq (.t 35) (.k (.int .u8 0)))), (some (25, true))⟩,
  ⟨(some 37), (.op (.pick (.t 25) (.t 36) (.k (.bool false)))), (some (22, false))⟩,
  ⟨(some 38), (.op (.pick (.t 22) (.k (.bool true)) (.t 37))), none⟩])
  (.cond (.t 38)
  (.seq
  (.ops [] [
  ⟨(some 39), (.op (.build [(.int .i64 0), (.slice none 0 0), (.slice none 0 0)] [])), none⟩,
  ⟨none, (.op (.store 3 (.t 4) (.t 39))), none⟩,
  ⟨(some 5), (.op (.mv (.k (.int .i64 1)))), none⟩])
  .ret)
  .skip))
  (.seq
  (.ops [] [
  ⟨(some 40), (.op (.mv (.t 6))), none⟩,
  ⟨(some 41), (.op (.toInt .u8 (.t 40))), none⟩,
  ⟨(some 42), (.op (.mkSl 1 [(.int .u8 0)] [(0, (1, (.t 41)))])), none⟩,
  ⟨(some 43), (.op (.mv (.t 0))), none⟩,
  ⟨(some 44), (.op (.append 1 1 (.t 42) (.t 43))), none⟩,
  ⟨(some 45), (.op (.build [(.int .i64 0), (.slice none 0 0), (.slice none 0 0)] [(0, (1, (.k (.int .i64 3)))), (1, (1, (.t 44)))])), none⟩,
  ⟨none, (.op (.store 3 (.t 4) (.t 45))), none⟩,
  ⟨(some 5), (.op (.mv (.k (.int .i64 0)))), none⟩])
  .ret)))),
  [(.cN 4 3), (.t 5)]⟩
theorem r_scalar_Bits : resolveFn Tryd.prog 20 = some c_scalar_Bits := by kernel_rfl

def c_lanyardref05_Bits : RFn :=
  ⟨51,
  (.seq
  (.ops [] [
  ⟨(some 4), (.op (.new [(.int .i64 0), (.slice none 0 0), (.slice none 0 0)])), none⟩,
  ⟨(some 5), (.op (.mv (.k (.int .i64 0)))), none⟩])
  (.seq
  (.seq
  (.ops [] [
  ⟨(some 7), (.op (.mv (.t 1))), none⟩,
  ⟨(some 8), (.op (.bin .lss (.t 7) (.k (.int .i64 0)))), none⟩,
  ⟨(some 9), (.op (.mv (.t 8))), none⟩,
  ⟨(some 10), (.op (.mv (.t 1))), (some (9, false))⟩,
  ⟨(some 11), (.op (.mv (.t 0))), (some (9, false))⟩,
  ⟨(some 12), (.op (.lenSl (.t 11))), (some (9, false))⟩,
  ⟨(some 13), (.op (.bin .mul (.k (.int .i64 8)) (.t 12))), (some (9, false))⟩,
  ⟨(some 14), (.op (.bin .gtr (.t 10) (.t 13))), (some (9, false))⟩,
  ⟨(some 15), (.op (.pick (.t 9) (.k (.bool true)) (.t 14))), none⟩,
  ⟨(some 16), (.op (.mv (.t 15))), none⟩,
  ⟨(some 17), (.op (.mv (.t 0))), (some (16, false))⟩,
  ⟨(some 18), (.op (.lenSl (.t 17))), (some (16, false))⟩,
  ⟨(some 19), (.op (.mv (.t 1))), (some (16, false))⟩,
  ⟨(some 20), (.op (.bin .add (.t 19) (.k (.int .i64 7)))), (some (16, false))⟩,
  ⟨(some 21), (.op (.bin .quo (.t 20) (.k (.int .i64 8)))), (some (16, false))⟩,
  ⟨(some 22), (.op (.bin .neq (.t 18) (.t 21))), (some (16, false))⟩,
  ⟨(some 23), (.op (.pick (.t 16) (.k (.bool true)) (.t 22))), none⟩])
  (.cond (.t 23)
  (.seq
  (.ops [] [
  ⟨(some 24), (.op (.build [(.int .i64 0), (.slice none 0 0), (.slice none 0 0)] [])), none⟩,
  ⟨none, (.op (.store 3 (.t 4) (.t 24))), none⟩,
  ⟨(some 5), (.op (.mv (.k (.int .i64 1)))), none⟩])
  .ret)
  .skip))
  (.seq
  (.ops [] [
  ⟨(some 25), (.op (.mv (.t 0))), none⟩,
  ⟨(some 26), (.op (.lenSl (.t 25))), none⟩,
  ⟨(some 27), (.op (.bin .mul (.k (.int .i64 8)) (.t 26))), none⟩,
  ⟨(some 28), (.op (.mv (.t 1))), none⟩,
  ⟨(some 29), (.op (.bin .sub (.t 27) (.t 28))), none⟩,
  ⟨(some 6), (.op (.mv (.t 29))), none⟩])
  (.seq
  (.seq
  (.ops [
  ⟨(some 30), (.op (.mv (.t 6))), none⟩,
  ⟨(some 31), (.op (.bin .gtr (.t 30) (.k (.int .i64 0)))), none⟩,
  ⟨(some 32), (.op (.mv (.t 31))), none⟩,
  ⟨(some 33), (.op (.mv (.t 0))), (some (32, true))⟩,
  ⟨(some 34), (.op (.mv (.t 0))), (some (32, true))⟩,
  ⟨(some 35), (.op (.lenSl (.t 34))), (some (32, true))⟩,
  ⟨(some 36), (.op (.bin .sub (.t 35) (.k (.int .i64 1)))), (some (32, true))⟩,
  ⟨(some 37), (.op (.ixAddr 1 (.t 33) (.t 36))), (some (32, true))⟩,
  ⟨(some 38), (.op (.load1 (.t 37))), (some (32, true))⟩,
  ⟨(some 39), (.op (.mv (.t 6))), (some (32, true))⟩,
  ⟨(some 40), (.op (.bin .shl (.k (.int .u8 1)) (.t 39))), (some (32, true))⟩] [
  ⟨(some 41), (.op (.bin .rem (.t 38) (.t 40))), (some (32, true))⟩,
  ⟨(some 42), (.op (.bin .neq (.t 41) (.k (.int .u8 0)))), (some (32, true))⟩,
  ⟨(some 43), (.op (.pick (.t 32) (.t 42) (.k (.bool false)))), none⟩])
  (.cond (.t 43)
  (.seq
  (.ops [] [
  ⟨(some 44), (.op (.build [(.int .i64 0), (.slice none 0 0), (.slice none 0 0)] [])), none⟩,
  ⟨none, (.op (.store 3 (.t 4) (.t 44))), none⟩,
  ⟨(some 5), (.op (.mv (.k (.int .i64 1)))), none⟩])
  .ret)
  .skip))
  (.seq
  (.ops [] [
  ⟨(some 45), (.op (.mv (.t 6))), none⟩,
  ⟨(some 46), (.op (.toInt .u8 (.t 45))), none⟩,
  ⟨(some 47), (.op (.mkSl 1 [(.int .u8 0)] [(0, (1, (.t 46)))])), none⟩,
  ⟨(some 48), (.op (.mv (.t 0))), none⟩,
  ⟨(some 49), (.op (.append 1 1 (.t 47) (.t 48))), none⟩,
  ⟨(some 50), (.op (.build [(.int .i64 0), (.slice none 0 0), (.slice none 0 0)] [(0, (1, (.k (.int .i64 3)))), (1, (1, (.t 49)))])), none⟩,
  ⟨none, (.op (.store 3 (.t 4) (.t 50))), none⟩,
  ⟨(some 5), (.op (.mv (.k (.int .i64 0)))), none⟩])
  .ret))))),
  [(.cN 4 3), (.t 5)]⟩
theorem r_lanyardref05_Bits : resolveFn Tryd.prog 21 = some c_lanyardref05_Bits := by kernel_rfl

def c_scalar_Of : RFn :=
  ⟨37,
  (.seq
  (.ops [] [
  ⟨(some 1), (.op (.box (.t 0))), none⟩,
  ⟨(some 2), (.op (.mv (.k (.slice none 0 0)))), none⟩,
  ⟨(some 3), (.op (.mv (.k (.int .i64 0)))), none⟩,
  ⟨(some 4), (.op (.mv (.k (.int .i64 0)))), none⟩])
  (.seq
  (.seq
  (.ops [] [
  ⟨(some 8), (.op (.fieldAddr 1 (.t 1))), none⟩,
  ⟨(some 9), (.op (.load1 (.t 8))), none⟩,
  ⟨(some 10), (.op (.lenSl (.t 9))), none⟩,
  ⟨(some 11), (.op (.bin .eql (.t 10) (.k (.int .i64 0)))), none⟩])
  (.cond (.t 11)
  (.seq
  (.ops [] [
  ⟨(some 2), (.op (.mv (.k (.slice none 0 0)))), none⟩,
  ⟨(some 3), (.op (.mv (.k (.int .i64 0)))), none⟩,
  ⟨(some 4), (.op (.mv (.k (.int .i64 2)))), none⟩])
  .ret)
  .skip))
  (.seq
  (.ops [] [
  ⟨(some 12), (.op (.fieldAddr 1 (.t 1))), none⟩,
  ⟨(some 13), (.op (.load1 (.t 12))), none⟩,
  ⟨(some 14), (.op (.sl 1 (.t 13) (some (.k (.int .i64 1))) none none)), none⟩,
  ⟨(some 15), (.call (.k (.func (.func 45) #[] #[])) [(.t 14)]), none⟩,
  ⟨(some 5), (.op (.new [(.slice none 0 0)])), none⟩,
  ⟨none, (.op (.store 1 (.t 5) (.t 15))), none⟩])
  (.seq
  (.ops [
  ⟨(some 16), (.op (.load1 (.t 5))), none⟩,
  ⟨(some 17), (.op (.lenSl (.t 16))), none⟩,
  ⟨(some 18), (.op (.bin .mul (.k (.int .i64 8)) (.t 17))), none⟩,
  ⟨(some 19), (.op (.fieldAddr 1 (.t 1))), none⟩,
  ⟨(some 20), (.op (.load1 (.t 19))), none⟩,
  ⟨(some 21), (.op (.ixAddr 1 (.t 20) (.k (.int .i64 0)))), none⟩,
  ⟨(some 22), (.op (.load1 (.t 21))), none⟩,
  ⟨(some 23), (.op (.toInt .i64 (.t 22))), none⟩,
  ⟨(some 24), (.op (.bin .sub (.t 18) (.t 23))), none⟩,
  ⟨(some 6), (.op (.new [(.int .i64 0)])), none⟩] [
  ⟨none, (.op (.store 1 (.t 6) (.t 24))), none⟩])
  (.seq
  (.ops [] [
  ⟨(some 26), (.op (.load1 (.t 5))), none⟩,
  ⟨(some 27), (.op (.loadN 3 (.t 1))), none⟩,
  ⟨(some 28), (.op (.func 53 [(.t 5), (.t 6)])), none⟩,
  ⟨(some 29), (.call (.k (.func (.func 51) #[] #[])) [(.t 26), (.k (.bool true)), (.t 27), (.t 28)]), none⟩,
  ⟨(some 25), (.op (.mv (.t 29))), none⟩,
  ⟨(some 30), (.op (.extract (.t 25) 0)), none⟩,
  ⟨(some 31), (.op (.extract (.t 25) 1)), none⟩,
  ⟨none, (.op (.store 1 (.t 5) (.t 30))), none⟩,
  ⟨(some 7), (.op (.mv (.t 31))), none⟩])
  (.seq
  (.seq
  (.ops [] [
  ⟨(some 32), (.op (.mv (.t 7))), none⟩,
  ⟨(some 33), (.op (.bin .neq (.t 32) (.k (.int .i64 0)))), none⟩])
  (.cond (.t 33)
  (.seq
  (.ops [] [
  ⟨(some 34), (.op (.mv (.t 7))), none⟩,
  ⟨(some 2), (.op (.mv (.k (.slice none 0 0)))), none⟩,
  ⟨(some 3), (.op (.mv (.k (.int .i64 0)))), none⟩,
  ⟨(some 4), (.op (.mv (.t 34))), none⟩])
  .ret)
  .skip))
  (.seq
  (.ops [
  ⟨(some 35), (.op (.load1 (.t 5))), none⟩,
  ⟨(some 36), (.op (.load1 (.t 6))), none⟩,
  ⟨(some 2), (.op (.mv (.t 35))), none⟩] [
  ⟨(some 3), (.op (.mv (.t 36))), none⟩,
  ⟨(some 4), (.op (.mv (.k (.int .i64 0)))), none⟩])
  .ret))))))),
  [(.t 2), (.t 3), (.t 4)]⟩
theorem r_scalar_Of : resolveFn Tryd.prog 22 = some c_scalar_Of := by kernel_rfl

def c_lanyardref05_Of : RFn :=
  ⟨50,
  (.seq
  (.ops [] [
  ⟨(some 1), (.op (.box (.t 0))), none⟩,
  ⟨(some 2), (.op (.mv (.k (.slice none 0 0)))), none⟩,
  ⟨(some 3), (.op (.mv (.k (.int .i64 0)))), none⟩,
  ⟨(some 4), (.op (.mv (.k (.int .i64 0)))), none⟩])
  (.seq
  (.seq
  (.ops [] [
  ⟨(some 9), (.op (.fieldAddr 1 (.t 1))), none⟩,
  ⟨(some 10), (.op (.load1 (.t 9))), none⟩,
  ⟨(some 11), (.op (.lenSl (.t 10))), none⟩,
  ⟨(some 12), (.op (.bin .eql (.t 11) (.k (.int .i64 0)))), none⟩,
  ⟨(some 13), (.op (.mv (.t 12))), none⟩,
  ⟨(some 14), (.op (.fieldAddr 1 (.t 1))), (some (13, false))⟩,
  ⟨(some 15), (.op (.load1 (.t 14))), (some (13, false))⟩,
  ⟨(some 16), (.op (.ixAddr 1 (.t 15) (.k (.int .i64 0)))), (some (13, false))⟩,
  ⟨(some 17), (.op (.load1 (.t 16))), (some (13, false))⟩,
  ⟨(some 18), (.op (.bin .gtr (.t 17) (.k (.int .u8 7)))), (some (13, false))⟩,
  ⟨(some 19), (.op (.pick (.t 13) (.k (.bool true)) (.t 18))), none⟩])
  (.cond (.t 19)
  (.seq
  (.ops [] [
  ⟨(some 2), (.op (.mv (.k (.slice none 0 0)))), none⟩,
  ⟨(some 3), (.op (.mv (.k (.int .i64 0)))), none⟩,
  ⟨(some 4), (.op (.mv (.k (.int .i64 2)))), none⟩])
  .ret)
  .skip))
  (.seq
  (.ops [] [
  ⟨(some 20), (.op (.mkSl 0 [] [])), none⟩,
  ⟨(some 21), (.op (.fieldAddr 1 (.t 1))), none⟩,
  ⟨(some 22), (.op (.load1 (.t 21))), none⟩,
  ⟨(some 23), (.op (.sl 1 (.t 22) (some (.k (.int .i64 1))) none none)), none⟩,
  ⟨(some 24), (.op (.append 1 1 (.t 20) (.t 23))), none⟩,
  ⟨(some 5), (.op (.mv (.t 24))), none⟩])
  (.seq
  (.ops [] [
  ⟨(some 25), (.op (.mv (.t 5))), none⟩,
  ⟨(some 26), (.op (.lenSl (.t 25))), none⟩,
  ⟨(some 27), (.op (.bin .mul (.k (.int .i64 8)) (.t 26))), none⟩,
  ⟨(some 28), (.op (.fieldAddr 1 (.t 1))), none⟩,
  ⟨(some 29), (.op (.load1 (.t 28))), none⟩,
  ⟨(some 30), (.op (.ixAddr 1 (.t 29) (.k (.int .i64 0)))), none⟩,
  ⟨(some 31), (.op (.load1 (.t 30))), none⟩,
  ⟨(some 32), (.op (.toInt .i64 (.t 31))), none⟩,
  ⟨(some 33), (.op (.bin .sub (.t 27) (.t 32))), none⟩,
  ⟨(some 6), (.op (.mv (.t 33))), none⟩])
  (.seq
  (.ops [] [
  ⟨(some 35), (.op (.mv (.t 5))), none⟩,
  ⟨(some 36), (.op (.mv (.t 6))), none⟩,
  ⟨(some 37), (.call (.k (.func (.func 21) #[] #[])) [(.t 35), (.t 36)]), none⟩,
  ⟨(some 34), (.op (.mv (.t 37))), none⟩,
  ⟨(some 38), (.op (.extract (.t 34) 0)), none⟩,
  ⟨(some 39), (.op (.extract (.t 34) 1)), none⟩,
  ⟨(some 7), (.op (.new [(.int .i64 0), (.slice none 0 0), (.slice none 0 0)])), none⟩,
  ⟨none, (.op (.store 3 (.t 7) (.t 38))), none⟩,
  ⟨(some 8), (.op (.mv (.t 39))), none⟩])
  (.seq
  (.seq
  (.ops [] [
  ⟨(some 40), (.op (.mv (.t 8))), none⟩,
  ⟨(some 41), (.op (.bin .neq (.t 40) (.k (.int .i64 0)))), none⟩,
  ⟨(some 42), (.op (.mv (.t 41))), none⟩,
  ⟨(some 43), (.op (.loadN 3 (.t 7))), (some (42, false))⟩,
  ⟨(some 44), (.op (.loadN 3 (.t 1))), (some (42, false))⟩,
  ⟨(some 45), (.call (.k (.func (.func 11) #[] #[])) [(.t 43), (.t 44)]), (some (42, false))⟩,
  ⟨(some 46), (.op (.un .not (.t 45))), (some (42, false))⟩,
  ⟨(some 47), (.op (.pick (.t 42) (.k (.bool true)) (.t 46))), none⟩])
  (.cond (.t 47)
  (.seq
  (.ops [] [
  ⟨(some 2), (.op (.mv (.k (.slice none 0 0)))), none⟩,
  ⟨(some 3), (.op (.mv (.k (.int .i64 0)))), none⟩,
  ⟨(some 4), (.op (.mv (.k (.int .i64 2)))), none⟩])
  .ret)
  .skip))
  (.seq
  (.ops [] [
  ⟨(some 48), (.op (.mv (.t 5))), none⟩,
  ⟨(some 49), (.op (.mv (.t 6))), none⟩,
  ⟨(some 2), (.op (.mv (.t 48))), none⟩,
  ⟨(some 3), (.op (.mv (.t 49))), none⟩,
  ⟨(some 4), (.op (.mv (.k (.int .i64 0)))), none⟩])
  .ret))))))),
  [(.t 2), (.t 3), (.t 4)]⟩
theorem r_lanyardref05_Of : resolveFn Tryd.prog 23 = some c_lanyardref05_Of := by kernel_rfl

def c_scalar_True : RFn :=
  ⟨22,
  (.seq
  (.ops [] [
  ⟨(some 1), (.op (.box (.t 0))), none⟩,
  ⟨(some 2), (.op (.mv (.k (.bool false)))), none⟩,
  ⟨(some 3), (.op (.mv (.k (.int .i64 0)))), none⟩])
  (.seq
  (.ops [] [
  ⟨(some 5), (.op (.fieldAddr 1 (.t 1))), none⟩,
  ⟨(some 6), (.op (.load1 (.t 5))), none⟩,
  ⟨(some 7), (.op (.lenSl (.t 6))), none⟩,
  ⟨(some 8), (.op (.bin .gtr (.t 7) (.k (.int .i64 0)))), none⟩,
  ⟨(some 9), (.op (.mv (.t 8))), none⟩,
  ⟨(some 10), (.op (.fieldAddr 1 (.t 1))), (some (9, true))⟩,
  ⟨(some 11), (.op (.load1 (.t 10))), (some (9, true))⟩,
  ⟨(some 12), (.op (.ixAddr 1 (.t 11) (.k (.int .i64 0)))), (some (9, true))⟩,
  ⟨(some 13), (.op (.load1 (.t 12))), (some (9, true))⟩,
  ⟨(some 14), (.op (.bin .neq (.t 13) (.k (.int .u8 0)))), (some (9, true))⟩,
  ⟨(some 15), (.op (.pick (.t 9) (.t 14) (.k (.bool false)))), none⟩,
  ⟨(some 4), (.op (.new [(.bool false)])), none⟩,
  ⟨none, (.op (.store 1 (.t 4) (.t 15))), none⟩])
  (.seq
  (.ops [] [
  ⟨(some 16), (.op (.load1 (.t 4))), none⟩,
  ⟨(some 17), (.op (.loadN 3 (.t 1))), none⟩,
  ⟨(some 18), (.op (.func 55 [(.t 4)])), none⟩,
  ⟨(some 19), (.call (.k (.func (.func 54) #[] #[])) [(.t 16), (.k (.bool true)), (.t 17), (.t 18)]), none⟩,
  ⟨(some 20), (.op (.extract (.t 19) 0)), none⟩,
  ⟨(some 21), (.op (.extract (.t 19) 1)), none⟩,
  ⟨(some 2), (.op (.mv (.t 20))), none⟩,
  ⟨(some 3), (.op (.mv (.t 21))), none⟩])
  .ret))),
  [(.t 2), (.t 3)]⟩
theorem r_scalar_True : resolveFn Tryd.prog 24 = some c_scalar_True := by kernel_rfl

def c_lanyardref05_True : RFn :=
  ⟨10,
  (.seq
  (.ops [] [
  ⟨(some 1), (.op (.box (.t 0))), none⟩,
  ⟨(some 2), (.op (.mv (.k (.bool false)))), none⟩,
  ⟨(some 3), (.op (.mv (.k (.int .i64 0)))), none⟩])
  (.seq
  (.seq
  (.ops [
  ⟨(some 4), (.op (.loadN 3 (.t 1))), none⟩,
  ⟨(some 5), (.call (.k (.func (.func 27) #[] #[])) [(.k (.bool true))]), none⟩] [
  ⟨(some 6), (.call (.k (.func (.func 11) #[] #[])) [(.t 4), (.t 5)]), none⟩])
  (.cond (.t 6)
  (.seq
  (.ops [] [
  ⟨(some 2), (.op (.mv (.k (.bool true)))), none⟩,
  ⟨(some 3), (.op (.mv (.k (.int .i64 0)))), none⟩])
  .ret)
  .skip))
  (.seq
  (.seq
  (.ops [
  ⟨(some 7), (.op (.loadN 3 (.t 1))), none⟩,
  ⟨(some 8), (.call (.k (.func (.func 27) #[] #[])) [(.k (.bool false))]), none⟩] [
  ⟨(some 9), (.call (.k (.func (.func 11) #[] #[])) [(.t 7), (.t 8)]), none⟩])
  (.cond (.t 9)
  (.seq
  (.ops [] [
  ⟨(some 2), (.op (.mv (.k (.bool false)))), none⟩,
  ⟨(some 3), (.op (.mv (.k (.int .i64 0)))), none⟩])
  .ret)
  .skip))
  (.seq
  (.ops [] [
  ⟨(some 2), (.op (.mv (.k (.bool false)))), none⟩,
  ⟨(some 3), (.op (.mv (.k (.int .i64 2)))), none⟩])
  .ret)))),
  [(.t 2), (.t 3)]⟩
theorem r_lanyardref05_True : resolveFn Tryd.prog 25 = some c_lanyardref05_True := by kernel_rfl

def c_scalar_Bool : RFn :=
  ⟨8,
  (.seq
  (.ops [] [
  ⟨(some 2), (.op (.new [(.int .i64 0), (.slice none 0 0), (.slice none 0 0)])), none⟩])
  (.seq
  (.seq
  (.ops [] [
  ⟨(some 3), (.op (.mv (.t 0))), none⟩])
  (.cond (.t 3)
  (.seq
  (.ops [] [
  ⟨(some 4), (.op (.mkSl 1 [(.int .u8 0)] [(0, (1, (.k (.int .u8 255))))])), none⟩,
  ⟨(some 5), (.op (.build [(.int .i64 0), (.slice none 0 0), (.slice none 0 0)] [(0, (1, (.k (.int .i64 1)))), (1, (1, (.t 4)))])), none⟩,
  ⟨none, (.op (.store 3 (.t 2) (.t 5))), none⟩])
  .ret)
  .skip))
  (.seq
  (.ops [] [
  ⟨(some 6), (.op (.mkSl 1 [(.int .u8 0)] [(0, (1, (.k (.int .u8 0))))])), none⟩,
  ⟨(some 7), (.op (.build [(.int .i64 0), (.slice none 0 0), (.slice none 0 0)] [(0, (1, (.k (.int .i64 1)))), (1, (1, (.t 6)))])), none⟩,
  ⟨none, (.op (.store 3 (.t 2) (.t 7))), none⟩])
  .ret))),
  [(.cN 2 3)]⟩
theorem r_scalar_Bool : resolveFn Tryd.prog 26 = some c_scalar_Bool := by kernel_rfl

def c_lanyardref05_Bool : RFn :=
  ⟨8,
  (.seq
  (.ops [] [
  ⟨(some 2), (.op (.new [(.int .i64 0), (.slice none 0 0), (.slice none 0 0)])), none⟩])
  (.seq
  (.seq
  (.ops [] [
  ⟨(some 3), (.op (.mv (.t 0))), none⟩])
  (.cond (.t 3)
  (.seq
  (.ops [] [
  ⟨(some 4), (.op (.mkSl 1 [(.int .u8 0)] [(0, (1, (.k (.int .u8 255))))])), none⟩,
  ⟨(some 5), (.op (.build [(.int .i64 0), (.slice none 0 0), (.slice none 0 0)] [(0, (1, (.k (.int .i64 1)))), (1, (1, (.t 4)))])), none⟩,
  ⟨none, (.op (.store 3 (.t 2) (.t 5))), none⟩])
  .ret)
  .skip))
  (.seq
  (.ops [] [
  ⟨(some 6), (.op (.mkSl 1 [(.int .u8 0)] [(0, (1, (.k (.int .u8 0))))])), none⟩,
  ⟨(some 7), (.op (.build [(.int .i64 0), (.slice none 0 0), (.slice none 0 0)] [(0, (1, (.k (.int .i64 1)))), (1, (1, (.t 6)))])), none⟩,
  ⟨none, (.op (.store 3 (.t 2) (.t 7))), none⟩])
  .ret))),
  [(.cN 2 3)]⟩
theorem r_lanyardref05_Bool : resolveFn Tryd.prog 27 = some c_lanyardref05_Bool := by kernel_rfl

def c_scalar_Of_1 : RFn :=
  ⟨9,
  (.seq
  (.ops [] [
  ⟨(some 2), (.op (.new [(.int .i64 0), (.slice none 0 0), (.slice none 0 0)])), none⟩,
  ⟨(some 3), (.op (.mv (.k (.int .i64 0)))), none⟩])
  (.seq
  (.ops [] [
  ⟨(some 4), (.op (.load1 (.t 0))), none⟩,
  ⟨(some 5), (.op (.load1 (.t 1))), none⟩,
  ⟨(some 6), (.call (.k (.func (.func 20) #[] #[])) [(.t 4), (.t 5)]), none⟩,
  ⟨(some 7), (.op (.extract (.t 6) 0)), none⟩,
  ⟨(some 8), (.op (.extract (.t 6) 1)), none⟩,
  ⟨none, (.op (.store 3 (.t 2) (.t 7))), none⟩,
  ⟨(some 3), (.op (.mv (.t 8))), none⟩])
  .ret)),
  [(.cN 2 3), (.t 3)]⟩
theorem r_scalar_Of_1 : resolveFn Tryd.prog 53 = some c_scalar_Of_1 := by kernel_rfl

def c_scalar_True_1 : RFn :=
  ⟨5,
  (.seq
  (.ops [] [
  ⟨(some 1), (.op (.new [(.int .i64 0), (.slice none 0 0), (.slice none 0 0)])), none⟩,
  ⟨(some 2), (.op (.mv (.k (.int .i64 0)))), none⟩])
  (.seq
  (.ops [] [
  ⟨(some 3), (.op (.load1 (.t 0))), none⟩,
  ⟨(some 4), (.call (.k (.func (.func 26) #[] #[])) [(.t 3)]), none⟩,
  ⟨none, (.op (.store 3 (.t 1) (.t 4))), none⟩,
  ⟨(some 2), (.op (.mv (.k (.int .i64 0)))), none⟩])
  .ret)),
  [(.cN 1 3), (.t 2)]⟩
theorem r_scalar_True_1 : resolveFn Tryd.prog 55 = some c_scalar_True_1 := by kernel_rfl

def c_scalar_just_bool_ : RFn :=
  ⟨31,
  (.seq
  (.ops [] [
  ⟨(some 6), (.op (.box (.t 2))), none⟩,
  ⟨(some 8), (.op (.mv (.k (.bool false)))), none⟩,
  ⟨(some 9), (.op (.mv (.k (.int .i64 0)))), none⟩])
  (.seq
  (.ops [] [
  ⟨(some 10), (.op (.mv (.k (.bool false)))), none⟩])
  (.seq
  (.seq
  (.ops [] [
  ⟨(some 13), (.op (.mv (.t 1))), none⟩,
  ⟨(some 14), (.op (.un .not (.t 13))), none⟩])
  (.cond (.t 14)
  (.seq
  (.ops [] [
  ⟨(some 15), (.op (.mv (.t 10))), none⟩,
  ⟨(some 8), (.op (.mv (.t 15))), none⟩,
  ⟨(some 9), (.op (.mv (.k (.int .i64 2)))), none⟩])
  .ret)
  .skip))
  (.seq
  (.seq
  (.ops [] [
  ⟨(some 17), (.op (.mv (.t 3))), none⟩,
  ⟨(some 18), (.call (.t 17) []), none⟩,
  ⟨(some 16), (.op (.mv (.t 18))), none⟩,
  ⟨(some 19), (.op (.extract (.t 16) 0)), none⟩,
  ⟨(some 20), (.op (.extract (.t 16) 1)), none⟩,
  ⟨(some 11), (.op (.new [(.int .i64 0), (.slice none 0 0), (.slice none 0 0)])), none⟩,
  ⟨none, (.op (.store 3 (.t 11) (.t 19))), none⟩,
  ⟨(some 12), (.op (.mv (.t 20))), none⟩])
  (.seq
  (.ops [] [
  ⟨(some 21), (.op (.mv (.t 12))), none⟩,
  ⟨(some 22), (.op (.bin .neq (.t 21) (.k (.int .i64 0)))), none⟩,
  ⟨(some 23), (.op (.mv (.t 22))), none⟩,
  ⟨(some 24), (.op (.loadN 3 (.t 11))), (some (23, false))⟩,
  ⟨(some 25), (.op (.loadN 3 (.t 6))), (some (23, false))⟩,
  ⟨(some 26), (.call (.k (.func (.func 75) #[] #[])) [(.t 24), (.t 25)]), (some (23, false))⟩,
  ⟨(some 27), (.op (.un .not (.t 26))), (some (23, false))⟩,
  ⟨(some 28), (.op (.pick (.t 23) (.k (.bool true)) (.t 27))), none⟩])
  (.cond (.t 28)
  (.seq
  (.ops [] [
  ⟨(some 29), (.op (.mv (.t 10))), none⟩,
  ⟨(some 8), (.op (.mv (.t 29))), none⟩,
  ⟨(some 9), (.op (.mv (.k (.int .i64 2)))), none⟩])
  .ret)
  .skip)))
  (.seq
  (.ops [] [
  ⟨(some 30), (.op (.mv (.t 0))), none⟩,
  ⟨(some 8), (.op (.mv (.t 30))), none⟩,
  ⟨(some 9), (.op (.mv (.k (.int .i64 0)))), none⟩])
  .ret))))),
  [(.t 8), (.t 9)]⟩
theorem r_scalar_just_bool_ : resolveFn Tryd.prog 54 = some c_scalar_just_bool_ := by kernel_rfl

def c_lanyardlaw05_ScalarBits : RFn :=
  ⟨119,
  (.seq
  (.ops [] [
  ⟨(some 5), (.op (.box (.t 2))), none⟩,
  ⟨(some 6), (.op (.mv (.k (.bool false)))), none⟩])
  (.seq
  (.ops [] [
  ⟨(some 25), (.call (.k (.func (.func 9) #[] #[])) []), none⟩,
  ⟨(some 7), (.op (.mv (.t 25))), none⟩])
  (.seq
  (.ops [] [
  ⟨(some 26), (.op (.loadN 3 (.t 5))), none⟩,
  ⟨(some 27), (.call (.k (.func (.func 10) #[] #[])) [(.t 26)]), none⟩,
  ⟨(some 8), (.op (.mv (.t 27))), none⟩])
  (.seq
  (.seq
  (.ops [] [
  ⟨(some 28), (.op (.mv (.t 8))), none⟩,
  ⟨(some 29), (.op (.un .not (.t 28))), none⟩,
  ⟨(some 30), (.op (.mv (.t 29))), none⟩,
  ⟨(some 31), (.op (.mv (.t 0))), (some (30, false))⟩,
  ⟨(some 32), (.op (.lenSl (.t 31))), (some (30, false))⟩,
  ⟨(some 33), (.op (.bin .gtr (.t 32) (.k (.int .i64 1000)))), (some (30, false))⟩,
  ⟨(some 34), (.op (.pick (.t 30) (.k (.bool true)) (.t 33))), none⟩])
  (.cond (.t 34)
  (.seq
  (.ops [] [
  ⟨(some 35), (.op (.mv (.t 7))), none⟩,
  ⟨(some 6), (.op (.mv (.t 35))), none⟩])
  .ret)
  .skip))
  (.seq
  (.ops [] [
  ⟨(some 37), (.op (.mv (.t 0))), none⟩,
  ⟨(some 38), (.op (.mv (.t 1))), none⟩,
  ⟨(some 39), (.call (.k (.func (.func 20) #[] #[])) [(.t 37), (.t 38)]), none⟩,
  ⟨(some 36), (.op (.mv (.t 39))), none⟩,
  ⟨(some 40), (.op (.extract (.t 36) 0)), none⟩,
  ⟨(some 41), (.op (.extract (.t 36) 1)), none⟩,
  ⟨(some 9), (.op (.new [(.int .i64 0), (.slice none 0 0), (.slice none 0 0)])), none⟩,
  ⟨none, (.op (.store 3 (.t 9) (.t 40))), none⟩,
  ⟨(some 10), (.op (.mv (.t 41))), none⟩])
  (.seq
  (.ops [] [
  ⟨(some 43), (.op (.mv (.t 0))), none⟩,
  ⟨(some 44), (.op (.mv (.t 1))), none⟩,
  ⟨(some 45), (.call (.k (.func (.func 21) #[] #[])) [(.t 43), (.t 44)]), none⟩,
  ⟨(some 42), (.op (.mv (.t 45))), none⟩,
  ⟨(some 46), (.op (.extract (.t 42) 0)), none⟩,
  ⟨(some 47), (.op (.extract (.t 42) 1)), none⟩,
  ⟨(some 11), (.op (.new [(.int .i64 0), (.slice none 0 0), (.slice none 0 0)])), none⟩,
  ⟨none, (.op (.store 3 (.t 11) (.t 46))), none⟩,
  ⟨(some 12), (.op (.mv (.t 47))), none⟩])
  (.seq
  (.ops [] [
  ⟨(some 48), (.op (.loadN 3 (.t 9))), none⟩,
  ⟨(some 49), (.op (.loadN 3 (.t 11))), none⟩,
  ⟨(some 50), (.call (.k (.func (.func 11) #[] #[])) [(.t 48), (.t 49)]), none⟩,
  ⟨(some 13), (.op (.mv (.t 50))), none⟩])
  (.seq
  (.ops [] [
  ⟨(some 52), (.op (.loadN 3 (.t 5))), none⟩,
  ⟨(some 53), (.call (.k (.func (.func 22) #[] #[])) [(.t 52)]), none⟩,
  ⟨(some 51), (.op (.mv (.t 53))), none⟩,
  ⟨(some 54), (.op (.extract (.t 51) 0)), none⟩,
  ⟨(some 55), (.op (.extract (.t 51) 1)), none⟩,
  ⟨(some 56), (.op (.extract (.t 51) 2)), none⟩,
  ⟨(some 14), (.op (.mv (.t 54))), none⟩,
  ⟨(some 15), (.op (.mv (.t 55))), none⟩,
  ⟨(some 16), (.op (.mv (.t 56))), none⟩])
  (.seq
  (.ops [] [
  ⟨(some 58), (.op (.loadN 3 (.t 5))), none⟩,
  ⟨(some 59), (.call (.k (.func (.func 23) #[] #[])) [(.t 58)]), none⟩,
  ⟨(some 57), (.op (.mv (.t 59))), none⟩,
  ⟨(some 60), (.op (.extract (.t 57) 0)), none⟩,
  ⟨(some 61), (.op (.extract (.t 57) 1)), none⟩,
  ⟨(some 62), (.op (.extract (.t 57) 2)), none⟩,
  ⟨(some 17), (.op (.mv (.t 60))), none⟩,
  ⟨(some 18), (.op (.mv (.t 61))), none⟩,
  ⟨(some 19), (.op (.mv (.t 62))), none⟩])
  (.seq
  (.ops [] [
  ⟨(some 64), (.op (.loadN 3 (.t 5))), none⟩,
  ⟨(some 65), (.call (.k (.func (.func 24) #[] #[])) [(.t 64)]), none⟩,
  ⟨(some 63), (.op (.mv (.t 65))), none⟩,
  ⟨(some 66), (.op (.extract (.t 63) 0)), none⟩,
  ⟨(some 67), (.op (.extract (.t 63) 1)), none⟩,
  ⟨(some 20), (.op (.mv (.t 66))), none⟩,
  ⟨(some 21), (.op (.mv (.t 67))), none⟩])
  (.seq
  (.ops [] [
  ⟨(some 69), (.op (.loadN 3 (.t 5))), none⟩,
  ⟨(some 70), (.call (.k (.func (.func 25) #[] #[])) [(.t 69)]), none⟩,
  ⟨(some 68), (.op (.mv (.t 70))), none⟩,
  ⟨(some 71), (.op (.extract (.t 68) 0)), none⟩,
  ⟨(some 72), (.op (.extract (.t 68) 1)), none⟩,
  ⟨(some 22), (.op (.mv (.t 71))), none⟩,
  ⟨(some 23), (.op (.mv (.t 72))), none⟩])
  (.seq
  (.ops [] [
  ⟨(some 73), (.op (.mv (.t 1))), none⟩,
  ⟨(some 74), (.op (.bin .gtr (.t 73) (.k (.int .i64 3)))), none⟩,
  ⟨(some 75), (.call (.k (.func (.func 26) #[] #[])) [(.t 74)]), none⟩,
  ⟨(some 76), (.op (.mv (.t 1))), none⟩,
  ⟨(some 77), (.op (.bin .gtr (.t 76) (.k (.int .i64 3)))), none⟩,
  ⟨(some 78), (.call (.k (.func (.func 27) #[] #[])) [(.t 77)]), none⟩,
  ⟨(some 79), (.call (.k (.func (.func 11) #[] #[])) [(.t 75), (.t 78)]), none⟩,
  ⟨(some 24), (.op (.mv (.t 79))), none⟩])
  (.seq
  (.ops [] [
  ⟨(some 80), (.op (.mv (.t 7))), none⟩,
  ⟨(some 81), (.op (.mv (.t 80))), none⟩,
  ⟨(some 82), (.op (.mv (.t 13))), (some (81, true))⟩,
  ⟨(some 83), (.op (.pick (.t 81) (.t 82) (.k (.bool false)))), none⟩,
  ⟨(some 84), (.op (.mv (.t 83))), none⟩,
  ⟨(some 85), (.op (.mv (.t 10))), (some (84, true))⟩,
  ⟨(some 86), (.op (.mv (.t 12))), (some (84, true))⟩,
  ⟨(some 87), (.op (.bin .eql (.t 85) (.t 86))), (some (84, true))⟩,
  ⟨(some 88), (.op (.pick (.t 84) (.t 87) (.k (.bool false)))), none⟩,
  ⟨(some 89), (.op (.mv (.t 88))), none⟩,
  ⟨(some 90), (.op (.mv (.t 14))), (some (89, true))⟩,
  ⟨(some 91), (.op (.b2s (.t 90))), (some (89, true))⟩,
  ⟨(some 92), (.op (.mv (.t 17))), (some (89, true))⟩,
  ⟨(some 93), (.op (.b2s (.t 92))), (some (89, true))⟩,
  ⟨(some 94), (.op (.bin .eql (.t 91) (.t 93))), (some (89, true))⟩,
  ⟨(some 95), (.op (.pick (.t 89) (.t 94) (.k (.bool false)))), none⟩,
  ⟨(some 96), (.op (.mv (.t 95))), none⟩,
  ⟨(some 97), (.op (.mv (.t 15))), (some (96, true))⟩,
  ⟨(some 98), (.op (.mv (.t 18))), (some (96, true))⟩,
  ⟨(some 99), (.op (.bin .eql (.t 97) (.t 98))), (some (96, true))⟩,
  ⟨(some 100), (.op (.pick (.t 96) (.t 99) (.k (.bool false)))), none⟩,
  ⟨(some 101), (.op (.mv (.t 100))), none⟩,
  ⟨(some 102), (.op (.mv (.t 16))), (some (101, true))⟩,
  ⟨(some 103), (.op (.mv (.t 19))), (some (101, true))⟩,
  ⟨(some 104), (.op (.bin .eql (.t 102) (.t 103))), (some (101, true))⟩,
  ⟨(some 105), (.op (.pick (.t 101) (.t 104) (.k (.bool false)))), none⟩,
  ⟨(some 106), (.op (.mv (.t 105))), none⟩,
  ⟨(some 107), (.op (.mv (.t 20))), (some (106, true))⟩,
  ⟨(some 108), (.op (.mv (.t 22))), (some (106, true))⟩,
  ⟨(some 109), (.op (.eqB false (.t 107) (.t 108))), (some (106, true))⟩,
  ⟨(some 110), (.op (.pick (.t 106) (.t 109) (.k (.bool false)))), none⟩,
  ⟨(some 111), (.op (.mv (.t 110))), none⟩,
  ⟨(some 112), (.op (.mv (.t 21))), (some (111, true))⟩,
  ⟨(some 113), (.op (.mv (.t 23))), (some (111, true))⟩,
  ⟨(some 114), (.op (.bin .eql (.t 112) (.t 113))), (some (111, true))⟩,
  ⟨(some 115), (.op (.pick (.t 111) (.t 114) (.k (.bool false)))), none⟩,
  ⟨(some 116), (.op (.mv (.t 115))), none⟩,
  ⟨(some 117), (.op (.mv (.t 24))), (some (116, true))⟩,
  ⟨(some 118), (.op (.pick (.t 116) (.t 117) (.k (.bool false)))), none⟩,
  ⟨(some 6), (.op (.mv (.t 118))), none⟩])
  .ret))))))))))))),
  [(.t 6)]⟩
theorem r_lanyardlaw05_ScalarBits : resolveFn Tryd.prog 4 = some c_lanyardlaw05_ScalarBits := by kernel_rfl

end Go.Ga

/- Bits as an element. -/
namespace Go.Ga
open Go Go.Proofs
set_option linter.unusedSimpArgs false
set_option linter.unusedVariables false
set_option maxRecDepth 100000
attribute [local irreducible] appendK

def bitsOk (l : List UInt8) (many : Int) : Bool := decide (0 ≤ many) && decide (many ≤ 8 * (l.length : Int)) && decide (8 * (l.length : Int) - many ≤ 7) && decide ((l.getD (l.length - 1) 0).toNat % 2 ^ (8 * (l.length : Int) - many).toNat = 0)
def bitsR (l : List UInt8) (many : Int) : Except Nat Fo.El := if bitsOk l many then .ok ⟨3, UInt8.ofNat (8 * (l.length : Int) - many).toNat :: l, .nil⟩ else .error 1
theorem bits_err {l : List UInt8} {many : Int} (h : ¬ bitsOk l many = true) : bitsR l many = .error 1 := if_neg h

theorem lt8 {k : Nat} (h : k ≤ 7) : k = 0 ∨ k = 1 ∨ k = 2 ∨ k = 3 ∨ k = 4 ∨ k = 5 ∨ k = 6 ∨ k = 7 := by omega
theorem shl8 {k : Nat} (h : k ≤ 7) : shlV .u8 1 (k : Int) = ((2 ^ k : Nat) : Int) := by
  rcases lt8 h with rfl | rfl | rfl | rfl | rfl | rfl | rfl | rfl <;> decide
theorem pow8 {k : Nat} (h : k ≤ 7) : 1 ≤ 2 ^ k ∧ 2 ^ k ≤ 128 := by
  rcases lt8 h with rfl | rfl | rfl | rfl | rfl | rfl | rfl | rfl <;> decide
theorem mask8 {x k : Nat} (hx : x < 256) (h : k ≤ 7) : bitsV .and .u8 (x : Int) (IntKind.u8.wrap (shlV .u8 1 (k : Int) - 1)) = ((x % 2 ^ k : Nat) : Int) := by
  have hp := pow8 h
  have e0 : IntKind.u8.wrap (shlV .u8 1 (k : Int) - 1) = ((2 ^ k - 1 : Nat) : Int) := by
    rw [shl8 h, u8_w]
    generalize 2 ^ k = y at *
    omega
  have e : x &&& (2 ^ k - 1) = x % 2 ^ k := Nat.and_two_pow_sub_one_eq_mod x k
  have hm : x % 2 ^ k < 2 ^ k := Nat.mod_lt _ (by omega)
  rw [e0]
  show IntKind.u8.wrap ((BitVec.ofInt 8 (x : Int) &&& BitVec.ofInt 8 ((2 ^ k - 1 : Nat) : Int)).toNat : Int) = _
  simp only [BitVec.ofInt_natCast, BitVec.toNat_and, BitVec.toNat_ofNat]
  rw [Nat.mod_eq_of_lt (by omega), Nat.mod_eq_of_lt (by omega), e, u8_w]
  generalize 2 ^ k = y at *
  omega

section
variable {nx : Nat} {gt : Nat → Option Blk}

theorem ct_Bits {A : Option Addr} {n c : Nat} {l : List UInt8} {many : Int} (hA : Row nx gt 1 A n (l.map u8V)) (hc : n ≤ c) (hn : n ≤ 1000000) (hm : -9223372036854775808 ≤ many ∧ many ≤ 9223372036854775807) :
    Ct Tryd.prog 20 [.slice A n c, .int .i64 many] nx gt fun v x g => NErr nx x g v (bitsR l many) := by
  have hl : l.length = n := by simpa using hA.len
  refine Ct.of hmx r_scalar_Bits (by simp [c_scalar_Bits]) fun b hb => ?_
  have hF : ∀ q, q < nx → upd gt nx (some (.cells [Value.int .i64 0, .slice none 0 0, .slice none 0 0] false)) q = gt q := fun q hq => by simp only [upd_e]; rw [if_neg (by omega)]
  have hb0 : upd gt nx (some (.cells [Value.int .i64 0, .slice none 0 0, .slice none 0 0] false)) nx = some (.cells [Value.int .i64 0, .slice none 0 0, .slice none 0 0] false) := by simp only [upd_e, if_true]
  by_cases h0 : many < 0
  · rw [bits_err (by unfold bitsOk; simp; omega)]
    simp only [c_scalar_Bits, ↓gaW, ↓gaV, ↓gaC, ↓gaN, gaP, Nat.reduceEqDiff, Nat.reduceLeDiff, Nat.reduceAdd, Nat.reduceSub, Nat.reduceMul, Int.reduceLT, Int.reduceLE, Int.reduceEq, Int.reduceToNat, Int.reduceAdd, Int.reduceSub, Int.reduceMul, reduceCtorEq, ↓reduceIte, List.getD_cons_zero, List.getD_cons_succ, fillL, splice, List.take_zero, List.drop_zero, List.drop_succ_cons, List.take_succ_cons, List.drop_nil, List.take_nil, gaU, h0, decide_true]
    repeat refine And.intro (by omega) ?_
    refine And.intro (node_cells _ _ _ _ _ _ _) ?_
    exact end_nT (q := nx) (t := 0) (B := none) (m := 0) (d := 0) (A := none) (n := 0) (c := 0) (ro := false) (w := .int .i64 1) (by first | (simp only [↓gaW, ↓gaV, ↓gaC, ↓gaN, gaP, Nat.reduceEqDiff, Nat.reduceLeDiff, Nat.reduceAdd, Nat.reduceSub, Nat.reduceMul, Int.reduceLT, Int.reduceLE, Int.reduceEq, Int.reduceToNat, Int.reduceAdd, Int.reduceSub, Int.reduceMul, reduceCtorEq, ↓reduceIte]; done) | (simp only [↓gaW, ↓gaV, ↓gaC, ↓gaN, gaP, Nat.reduceEqDiff, Nat.reduceLeDiff, Nat.reduceAdd, Nat.reduceSub, Nat.reduceMul, Int.reduceLT, Int.reduceLE, Int.reduceEq, Int.reduceToNat, Int.reduceAdd, Int.reduceSub, Int.reduceMul, reduceCtorEq, ↓reduceIte]; rfl)) (by first | (simp only [↓gaW, ↓gaV, ↓gaC, ↓gaN, gaP, Nat.reduceEqDiff, Nat.reduceLeDiff, Nat.reduceAdd, Nat.reduceSub, Nat.reduceMul, Int.reduceLT, Int.reduceLE, Int.reduceEq, Int.reduceToNat, Int.reduceAdd, Int.reduceSub, Int.reduceMul, reduceCtorEq, ↓reduceIte]; done) | (simp only [↓gaW, ↓gaV, ↓gaC, ↓gaN, gaP, Nat.reduceEqDiff, Nat.reduceLeDiff, Nat.reduceAdd, Nat.reduceSub, Nat.reduceMul, Int.reduceLT, Int.reduceLE, Int.reduceEq, Int.reduceToNat, Int.reduceAdd, Int.reduceSub, Int.reduceMul, reduceCtorEq, ↓reduceIte]; rfl)) (by simp only [upd_e, if_true]) (by omega) (fun p hp => by simp only [upd_e]; rw [if_neg (by omega), if_neg (by omega)]) ⟨rfl, by omega⟩
  have i1 : IntKind.i64.wrap (IntKind.i64.wrap (8 * (n : Int)) - many) = 8 * (n : Int) - many := by rw [i64_w (8 * (n : Int)) (by omega), i64_w _ (by omega)]
  obtain ⟨k, hk⟩ : ∃ k : Int, 8 * (n : Int) - many = k := ⟨_, rfl⟩
  rw [hk] at i1
  by_cases h1 : k < 0
  · rw [bits_err (by unfold bitsOk; simp; omega)]
    simp only [c_scalar_Bits, ↓gaW, ↓gaV, ↓gaC, ↓gaN, gaP, Nat.reduceEqDiff, Nat.reduceLeDiff, Nat.reduceAdd, Nat.reduceSub, Nat.reduceMul, Int.reduceLT, Int.reduceLE, Int.reduceEq, Int.reduceToNat, Int.reduceAdd, Int.reduceSub, Int.reduceMul, reduceCtorEq, ↓reduceIte, List.getD_cons_zero, List.getD_cons_succ, fillL, splice, List.take_zero, List.drop_zero, List.drop_succ_cons, List.take_succ_cons, List.drop_nil, List.take_nil, gaU, h0, decide_false, i1, h1, decide_true]
    repeat refine And.intro (by omega) ?_
    refine And.intro (node_cells _ _ _ _ _ _ _) ?_
    exact end_nT (q := nx) (t := 0) (B := none) (m := 0) (d := 0) (A := none) (n := 0) (c := 0) (ro := false) (w := .int .i64 1) (by first | (simp only [↓gaW, ↓gaV, ↓gaC, ↓gaN, gaP, Nat.reduceEqDiff, Nat.reduceLeDiff, Nat.reduceAdd, Nat.reduceSub, Nat.reduceMul, Int.reduceLT, Int.reduceLE, Int.reduceEq, Int.reduceToNat, Int.reduceAdd, Int.reduceSub, Int.reduceMul, reduceCtorEq, ↓reduceIte]; done) | (simp only [↓gaW, ↓gaV, ↓gaC, ↓gaN, gaP, Nat.reduceEqDiff, Nat.reduceLeDiff, Nat.reduceAdd, Nat.reduceSub, Nat.reduceMul, Int.reduceLT, Int.reduceLE, Int.reduceEq, Int.reduceToNat, Int.reduceAdd, Int.reduceSub, Int.reduceMul, reduceCtorEq, ↓reduceIte]; rfl)) (by first | (simp only [↓gaW, ↓gaV, ↓gaC, ↓gaN, gaP, Nat.reduceEqDiff, Nat.reduceLeDiff, Nat.reduceAdd, Nat.reduceSub, Nat.reduceMul, Int.reduceLT, Int.reduceLE, Int.reduceEq, Int.reduceToNat, Int.reduceAdd, Int.reduceSub, Int.reduceMul, reduceCtorEq, ↓reduceIte]; done) | (simp only [↓gaW, ↓gaV, ↓gaC, ↓gaN, gaP, Nat.reduceEqDiff, Nat.reduceLeDiff, Nat.reduceAdd, Nat.reduceSub, Nat.reduceMul, Int.reduceLT, Int.reduceLE, Int.reduceEq, Int.reduceToNat, Int.reduceAdd, Int.reduceSub, Int.reduceMul, reduceCtorEq, ↓reduceIte]; rfl)) (by simp only [upd_e, if_true]) (by omega) (fun p hp => by simp only [upd_e]; rw [if_neg (by omega), if_neg (by omega)]) ⟨rfl, by omega⟩
  by_cases h2 : 7 < k
  · rw [bits_err (by unfold bitsOk; simp; omega)]
    simp only [c_scalar_Bits, ↓gaW, ↓gaV, ↓gaC, ↓gaN, gaP, Nat.reduceEqDiff, Nat.reduceLeDiff, Nat.reduceAdd, Nat.reduceSub, Nat.reduceMul, Int.reduceLT, Int.reduceLE, Int.reduceEq, Int.reduceToNat, Int.reduceAdd, Int.reduceSub, Int.reduceMul, reduceCtorEq, ↓reduceIte, List.getD_cons_zero, List.getD_cons_succ, fillL, splice, List.take_zero, List.drop_zero, List.drop_succ_cons, List.take_succ_cons, List.drop_nil, List.take_nil, gaU, h0, decide_false, i1, h1, h2, decide_true]
    repeat refine And.intro (by omega) ?_
    refine And.intro (node_cells _ _ _ _ _ _ _) ?_
    exact end_nT (q := nx) (t := 0) (B := none) (m := 0) (d := 0) (A := none) (n := 0) (c := 0) (ro := false) (w := .int .i64 1) (by first | (simp only [↓gaW, ↓gaV, ↓gaC, ↓gaN, gaP, Nat.reduceEqDiff, Nat.reduceLeDiff, Nat.reduceAdd, Nat.reduceSub, Nat.reduceMul, Int.reduceLT, Int.reduceLE, Int.reduceEq, Int.reduceToNat, Int.reduceAdd, Int.reduceSub, Int.reduceMul, reduceCtorEq, ↓reduceIte]; done) | (simp only [↓gaW, ↓gaV, ↓gaC, ↓gaN, gaP, Nat.reduceEqDiff, Nat.reduceLeDiff, Nat.reduceAdd, Nat.reduceSub, Nat.reduceMul, Int.reduceLT, Int.reduceLE, Int.reduceEq, Int.reduceToNat, Int.reduceAdd, Int.reduceSub, Int.reduceMul, reduceCtorEq, ↓reduceIte]; rfl)) (by first | (simp only [↓gaW, ↓gaV, ↓gaC, ↓gaN, gaP, Nat.reduceEqDiff, Nat.reduceLeDiff, Nat.reduceAdd, Nat.reduceSub, Nat.reduceMul, Int.reduceLT, Int.reduceLE, Int.reduceEq, Int.reduceToNat, Int.reduceAdd, Int.reduceSub, Int.reduceMul, reduceCtorEq, ↓reduceIte]; done) | (simp only [↓gaW, ↓gaV, ↓gaC, ↓gaN, gaP, Nat.reduceEqDiff, Nat.reduceLeDiff, Nat.reduceAdd, Nat.reduceSub, Nat.reduceMul, Int.reduceLT, Int.reduceLE, Int.reduceEq, Int.reduceToNat, Int.reduceAdd, Int.reduceSub, Int.reduceMul, reduceCtorEq, ↓reduceIte]; rfl)) (by simp only [upd_e, if_true]) (by omega) (fun p hp => by simp only [upd_e]; rw [if_neg (by omega), if_neg (by omega)]) ⟨rfl, by omega⟩
  obtain ⟨k, rfl⟩ : ∃ j : Nat, k = (j : Int) := ⟨k.toNat, by omega⟩
  have hkt : (8 * (l.length : Int) - many).toNat = k := by rw [hl]; omega
  by_cases h3 : (0 : Int) < (k : Int)
  · obtain ⟨a, cl, ro, rfl, r2, r3, r4, r5⟩ := hA.cells (by omega)
    have i2 : IntKind.i64.wrap ((n : Int) - 1) = ((n - 1 : Nat) : Int) := by rw [i64_w _ (by omega)]; omega
    have hqn : (a.block = nx) = False := by simp; omega
    have c0 : cl.getD (a.off + (n - 1)) undef = .int .u8 ((l.getD (n - 1) 0).toNat : Nat) := by rw [r5 (n - 1) (by omega), getD_u8 (by omega)]
    have hx := (l.getD (n - 1) 0).toNat_lt
    have hp := pow8 (k := k) (by omega)
    by_cases h4 : (((l.getD (n - 1) 0).toNat % 2 ^ k : Nat) : Int) = 0
    · have hr : bitsR l many = .ok ⟨3, UInt8.ofNat k :: l, .nil⟩ := by
        unfold bitsR
        rw [hkt, if_pos]
        unfold bitsOk
        rw [hkt, hl]
        simp only [Bool.and_eq_true, decide_eq_true_eq]
        exact ⟨⟨⟨by omega, by omega⟩, by omega⟩, by omega⟩
      rw [hr]
      simp only [c_scalar_Bits, ↓gaW, ↓gaV, ↓gaC, ↓gaN, gaP, Nat.reduceEqDiff, Nat.reduceLeDiff, Nat.reduceAdd, Nat.reduceSub, Nat.reduceMul, Int.reduceLT, Int.reduceLE, Int.reduceEq, Int.reduceToNat, Int.reduceAdd, Int.reduceSub, Int.reduceMul, reduceCtorEq, ↓reduceIte, List.getD_cons_zero, List.getD_cons_succ, fillL, splice, List.take_zero, List.drop_zero, List.drop_succ_cons, List.take_succ_cons, List.drop_nil, List.take_nil, gaU, h0, decide_false, i1, i2, h1, h2, h3, decide_true, hqn, r3, c0, mask8 hx (show k ≤ 7 by omega), h4, not_true]
      obtain ⟨A, hAe⟩ : ∃ A : Option Addr, A = some a := ⟨_, rfl⟩
      rw [← hAe] at hA ⊢
      have e8 : Value.int .u8 (IntKind.u8.wrap (k : Int)) = u8V (UInt8.ofNat k) := by
        show _ = Value.int .u8 _
        exact congrArg (Value.int .u8) (by first | rfl | (rw [UInt8.toNat_ofNat', u8_w]; omega))
      rw [e8]
      have hZ : ∀ p, p < nx + 1 → upd (upd gt nx (some (.cells [Value.int .i64 0, .slice none 0 0, .slice none 0 0] false))) (nx + 1) (some (.cells [u8V (UInt8.ofNat k)] false)) p = upd gt nx (some (.cells [Value.int .i64 0, .slice none 0 0, .slice none 0 0] false)) p := fun p hp => by rw [upd_e, if_neg (by omega)]
      have hz : upd (upd gt nx (some (.cells [Value.int .i64 0, .slice none 0 0, .slice none 0 0] false))) (nx + 1) (some (.cells [u8V (UInt8.ofNat k)] false)) (nx + 1) = some (.cells [u8V (UInt8.ofNat k)] false) := by rw [upd_e, if_pos rfl]
      have e1 : rowOf ⟨nx + 1 + 1, b, upd (upd gt nx (some (.cells [Value.int .i64 0, .slice none 0 0, .slice none 0 0] false))) (nx + 1) (some (.cells [u8V (UInt8.ofNat k)] false))⟩ A n = some (l.map u8V) := (hA.keep (nx' := nx + 1 + 1) (by omega) fun p hp => by rw [hZ p (by omega), hF p hp]).rowOf
      repeat refine And.intro (by omega) ?_
      rw [e1]
      simp only [asO_e]
      refine app_litN (bytes := 1) (z := nx + 1) (n := 1) (e := 1) (by omega) hz rfl (by omega) (by simp [hl]) (all_u8 _) (by omega) (by omega) fun A6 x6 g6 l6 k6 r6 => ?_
      rw [Nat.mul_one] at r6
      have hb6 : g6 nx = some (.cells [Value.int .i64 0, .slice none 0 0, .slice none 0 0] false) := by rw [k6 nx (by omega), hZ nx (by omega), hb0]
      have ext : ∀ (g : Nat → Option Blk) (cs : List Value), (∀ p, p ≠ nx → upd g nx (some (.cells cs false)) p = g p) := fun g cs p hp => by simp only [upd_e]; rw [if_neg hp]
      simp only [↓gaW, ↓gaV, ↓gaC, ↓gaN, gaP, Nat.reduceEqDiff, Nat.reduceLeDiff, Nat.reduceAdd, Nat.reduceSub, Nat.reduceMul, Int.reduceLT, Int.reduceLE, Int.reduceEq, Int.reduceToNat, Int.reduceAdd, Int.reduceSub, Int.reduceMul, reduceCtorEq, ↓reduceIte, List.getD_cons_zero, List.getD_cons_succ, fillL, splice, List.take_zero, List.drop_zero, List.drop_succ_cons, List.take_succ_cons, List.drop_nil, List.take_nil, hb6]
      refine And.intro (by omega) (And.intro (node_cells _ _ _ _ _ _ _) ?_)
      refine end_nT (q := nx) (t := 3) (B := A6) (m := 1 + n) (d := 1 + n) (A := none) (n := 0) (c := 0) (ro := false) (w := .int .i64 0) (by first | (simp only [↓gaW, ↓gaV, ↓gaC, ↓gaN, gaP, Nat.reduceEqDiff, Nat.reduceLeDiff, Nat.reduceAdd, Nat.reduceSub, Nat.reduceMul, Int.reduceLT, Int.reduceLE, Int.reduceEq, Int.reduceToNat, Int.reduceAdd, Int.reduceSub, Int.reduceMul, reduceCtorEq, ↓reduceIte]; done) | (simp only [↓gaW, ↓gaV, ↓gaC, ↓gaN, gaP, Nat.reduceEqDiff, Nat.reduceLeDiff, Nat.reduceAdd, Nat.reduceSub, Nat.reduceMul, Int.reduceLT, Int.reduceLE, Int.reduceEq, Int.reduceToNat, Int.reduceAdd, Int.reduceSub, Int.reduceMul, reduceCtorEq, ↓reduceIte]; rfl)) (by first | (simp only [↓gaW, ↓gaV, ↓gaC, ↓gaN, gaP, Nat.reduceEqDiff, Nat.reduceLeDiff, Nat.reduceAdd, Nat.reduceSub, Nat.reduceMul, Int.reduceLT, Int.reduceLE, Int.reduceEq, Int.reduceToNat, Int.reduceAdd, Int.reduceSub, Int.reduceMul, reduceCtorEq, ↓reduceIte]; done) | (simp only [↓gaW, ↓gaV, ↓gaC, ↓gaN, gaP, Nat.reduceEqDiff, Nat.reduceLeDiff, Nat.reduceAdd, Nat.reduceSub, Nat.reduceMul, Int.reduceLT, Int.reduceLE, Int.reduceEq, Int.reduceToNat, Int.reduceAdd, Int.reduceSub, Int.reduceMul, reduceCtorEq, ↓reduceIte]; rfl)) (by simp only [upd_e, if_true]) (by omega) (fun p hp => by rw [ext _ _ p (by omega), k6 p (by omega), hZ p (by omega), hF p hp]) ⟨_, rfl, ?_⟩
      have r7 : RowL (nx + 1) x6 g6 1 A6 (1 + n) ((UInt8.ofNat k :: l).map u8V) := r6
      exact NodeIs.leaf (by omega) ((r7.keep (Nat.le_refl _) fun p hp _ => ext _ _ p (by omega)).wid (by omega)) (Nat.le_refl _)
    · rw [bits_err (by unfold bitsOk; rw [hkt, hl]; simp only [Bool.and_eq_true, decide_eq_true_eq]; omega)]
      simp only [c_scalar_Bits, ↓gaW, ↓gaV, ↓gaC, ↓gaN, gaP, Nat.reduceEqDiff, Nat.reduceLeDiff, Nat.reduceAdd, Nat.reduceSub, Nat.reduceMul, Int.reduceLT, Int.reduceLE, Int.reduceEq, Int.reduceToNat, Int.reduceAdd, Int.reduceSub, Int.reduceMul, reduceCtorEq, ↓reduceIte, List.getD_cons_zero, List.getD_cons_succ, fillL, splice, List.take_zero, List.drop_zero, List.drop_succ_cons, List.take_succ_cons, List.drop_nil, List.take_nil, gaU, h0, decide_false, i1, i2, h1, h2, h3, decide_true, hqn, r3, c0, mask8 hx (show k ≤ 7 by omega), h4, not_false_eq_true]
      repeat refine And.intro (by omega) ?_
      refine And.intro (node_cells _ _ _ _ _ _ _) ?_
      exact end_nT (q := nx) (t := 0) (B := none) (m := 0) (d := 0) (A := none) (n := 0) (c := 0) (ro := false) (w := .int .i64 1) (by first | (simp only [↓gaW, ↓gaV, ↓gaC, ↓gaN, gaP, Nat.reduceEqDiff, Nat.reduceLeDiff, Nat.reduceAdd, Nat.reduceSub, Nat.reduceMul, Int.reduceLT, Int.reduceLE, Int.reduceEq, Int.reduceToNat, Int.reduceAdd, Int.reduceSub, Int.reduceMul, reduceCtorEq, ↓reduceIte]; done) | (simp only [↓gaW, ↓gaV, ↓gaC, ↓gaN, gaP, Nat.reduceEqDiff, Nat.reduceLeDiff, Nat.reduceAdd, Nat.reduceSub, Nat.reduceMul, Int.reduceLT, Int.reduceLE, Int.reduceEq, Int.reduceToNat, Int.reduceAdd, Int.reduceSub, Int.reduceMul, reduceCtorEq, ↓reduceIte]; rfl)) (by first | (simp only [↓gaW, ↓gaV, ↓gaC, ↓gaN, gaP, Nat.reduceEqDiff, Nat.reduceLeDiff, Nat.reduceAdd, Nat.reduceSub, Nat.reduceMul, Int.reduceLT, Int.reduceLE, Int.reduceEq, Int.reduceToNat, Int.reduceAdd, Int.reduceSub, Int.reduceMul, reduceCtorEq, ↓reduceIte]; done) | (simp only [↓gaW, ↓gaV, ↓gaC, ↓gaN, gaP, Nat.reduceEqDiff, Nat.reduceLeDiff, Nat.reduceAdd, Nat.reduceSub, Nat.reduceMul, Int.reduceLT, Int.reduceLE, Int.reduceEq, Int.reduceToNat, Int.reduceAdd, Int.reduceSub, Int.reduceMul, reduceCtorEq, ↓reduceIte]; rfl)) (by simp only [upd_e, if_true]) (by omega) (fun p hp => by simp only [upd_e]; rw [if_neg (by omega), if_neg (by omega)]) ⟨rfl, by omega⟩
  · have hk0 : k = 0 := by omega
    have hr : bitsR l many = .ok ⟨3, UInt8.ofNat k :: l, .nil⟩ := by
      unfold bitsR
      rw [hkt, if_pos]
      unfold bitsOk
      rw [hkt, hl, hk0]
      simp only [Bool.and_eq_true, decide_eq_true_eq, Nat.pow_zero, Nat.mod_one]
      exact ⟨⟨⟨by omega, by omega⟩, by omega⟩, trivial⟩
    rw [hr]
    simp only [c_scalar_Bits, ↓gaW, ↓gaV, ↓gaC, ↓gaN, gaP, Nat.reduceEqDiff, Nat.reduceLeDiff, Nat.reduceAdd, Nat.reduceSub, Nat.reduceMul, Int.reduceLT, Int.reduceLE, Int.reduceEq, Int.reduceToNat, Int.reduceAdd, Int.reduceSub, Int.reduceMul, reduceCtorEq, ↓reduceIte, List.getD_cons_zero, List.getD_cons_succ, fillL, splice, List.take_zero, List.drop_zero, List.drop_succ_cons, List.take_succ_cons, List.drop_nil, List.take_nil, gaU, h0, decide_false, i1, h1, h2, h3, decide_true]
    have e8 : Value.int .u8 (IntKind.u8.wrap (k : Int)) = u8V (UInt8.ofNat k) := by
      show _ = Value.int .u8 _
      exact congrArg (Value.int .u8) (by first | rfl | (rw [UInt8.toNat_ofNat', u8_w]; omega))
    rw [e8]
    have hZ : ∀ p, p < nx + 1 → upd (upd gt nx (some (.cells [Value.int .i64 0, .slice none 0 0, .slice none 0 0] false))) (nx + 1) (some (.cells [u8V (UInt8.ofNat k)] false)) p = upd gt nx (some (.cells [Value.int .i64 0, .slice none 0 0, .slice none 0 0] false)) p := fun p hp => by rw [upd_e, if_neg (by omega)]
    have hz : upd (upd gt nx (some (.cells [Value.int .i64 0, .slice none 0 0, .slice none 0 0] false))) (nx + 1) (some (.cells [u8V (UInt8.ofNat k)] false)) (nx + 1) = some (.cells [u8V (UInt8.ofNat k)] false) := by rw [upd_e, if_pos rfl]
    have e1 : rowOf ⟨nx + 1 + 1, b, upd (upd gt nx (some (.cells [Value.int .i64 0, .slice none 0 0, .slice none 0 0] false))) (nx + 1) (some (.cells [u8V (UInt8.ofNat k)] false))⟩ A n = some (l.map u8V) := (hA.keep (nx' := nx + 1 + 1) (by omega) fun p hp => by rw [hZ p (by omega), hF p hp]).rowOf
    repeat refine And.intro (by omega) ?_
    rw [e1]
    simp only [asO_e]
    refine app_litN (bytes := 1) (z := nx + 1) (n := 1) (e := 1) (by omega) hz rfl (by omega) (by simp [hl]) (all_u8 _) (by omega) (by omega) fun A6 x6 g6 l6 k6 r6 => ?_
    rw [Nat.mul_one] at r6
    have hb6 : g6 nx = some (.cells [Value.int .i64 0, .slice none 0 0, .slice none 0 0] false) := by rw [k6 nx (by omega), hZ nx (by omega), hb0]
    have ext : ∀ (g : Nat → Option Blk) (cs : List Value), (∀ p, p ≠ nx → upd g nx (some (.cells cs false)) p = g p) := fun g cs p hp => by simp only [upd_e]; rw [if_neg hp]
    simp only [↓gaW, ↓gaV, ↓gaC, ↓gaN, gaP, Nat.reduceEqDiff, Nat.reduceLeDiff, Nat.reduceAdd, Nat.reduceSub, Nat.reduceMul, Int.reduceLT, Int.reduceLE, Int.reduceEq, Int.reduceToNat, Int.reduceAdd, Int.reduceSub, Int.reduceMul, reduceCtorEq, ↓reduceIte, List.getD_cons_zero, List.getD_cons_succ, fillL, splice, List.take_zero, List.drop_zero, List.drop_succ_cons, List.take_succ_cons, List.drop_nil, List.take_nil, hb6]
    refine And.intro (by omega) (And.intro (node_cells _ _ _ _ _ _ _) ?_)
    refine end_nT (q := nx) (t := 3) (B := A6) (m := 1 + n) (d := 1 + n) (A := none) (n := 0) (c := 0) (ro := false) (w := .int .i64 0) (by first | (simp only [↓gaW, ↓gaV, ↓gaC, ↓gaN, gaP, Nat.reduceEqDiff, Nat.reduceLeDiff, Nat.reduceAdd, Nat.reduceSub, Nat.reduceMul, Int.reduceLT, Int.reduceLE, Int.reduceEq, Int.reduceToNat, Int.reduceAdd, Int.reduceSub, Int.reduceMul, reduceCtorEq, ↓reduceIte]; done) | (simp only [↓gaW, ↓gaV, ↓gaC, ↓gaN, gaP, Nat.reduceEqDiff, Nat.reduceLeDiff, Nat.reduceAdd, Nat.reduceSub, Nat.reduceMul, Int.reduceLT, Int.reduceLE, Int.reduceEq, Int.reduceToNat, Int.reduceAdd, Int.reduceSub, Int.reduceMul, reduceCtorEq, ↓reduceIte]; rfl)) (by first | (simp only [↓gaW, ↓gaV, ↓gaC, ↓gaN, gaP, Nat.reduceEqDiff, Nat.reduceLeDiff, Nat.reduceAdd, Nat.reduceSub, Nat.reduceMul, Int.reduceLT, Int.reduceLE, Int.reduceEq, Int.reduceToNat, Int.reduceAdd, Int.reduceSub, Int.reduceMul, reduceCtorEq, ↓reduceIte]; done) | (simp only [↓gaW, ↓gaV, ↓gaC, ↓gaN, gaP, Nat.reduceEqDiff, Nat.reduceLeDiff, Nat.reduceAdd, Nat.reduceSub, Nat.reduceMul, Int.reduceLT, Int.reduceLE, Int.reduceEq, Int.reduceToNat, Int.reduceAdd, Int.reduceSub, Int.reduceMul, reduceCtorEq, ↓reduceIte]; rfl)) (by simp only [upd_e, if_true]) (by omega) (fun p hp => by rw [ext _ _ p (by omega), k6 p (by omega), hZ p (by omega), hF p hp]) ⟨_, rfl, ?_⟩
    have r7 : RowL (nx + 1) x6 g6 1 A6 (1 + n) ((UInt8.ofNat k :: l).map u8V) := r6
    exact NodeIs.leaf (by omega) ((r7.keep (Nat.le_refl _) fun p hp _ => ext _ _ p (by omega)).wid (by omega)) (Nat.le_refl _)
theorem ct_rBits {A : Option Addr} {n c : Nat} {l : List UInt8} {many : Int} (hA : Row nx gt 1 A n (l.map u8V)) (hc : n ≤ c) (hn : n ≤ 1000000) (hm : -9223372036854775808 ≤ many ∧ many ≤ 9223372036854775807) :
    Ct Tryd.prog 21 [.slice A n c, .int .i64 many] nx gt fun v x g => NErr nx x g v (bitsR l many) := by
  have hl : l.length = n := by simpa using hA.len
  refine Ct.of hmx r_lanyardref05_Bits (by simp [c_lanyardref05_Bits]) fun b hb => ?_
  have hF : ∀ q, q < nx → upd gt nx (some (.cells [Value.int .i64 0, .slice none 0 0, .slice none 0 0] false)) q = gt q := fun q hq => by simp only [upd_e]; rw [if_neg (by omega)]
  have hb0 : upd gt nx (some (.cells [Value.int .i64 0, .slice none 0 0, .slice none 0 0] false)) nx = some (.cells [Value.int .i64 0, .slice none 0 0, .slice none 0 0] false) := by simp only [upd_e, if_true]
  by_cases h0 : many < 0
  · rw [bits_err (by unfold bitsOk; simp; omega)]
    simp only [c_lanyardref05_Bits, ↓gaW, ↓gaV, ↓gaC, ↓gaN, gaP, Nat.reduceEqDiff, Nat.reduceLeDiff, Nat.reduceAdd, Nat.reduceSub, Nat.reduceMul, Int.reduceLT, Int.reduceLE, Int.reduceEq, Int.reduceToNat, Int.reduceAdd, Int.reduceSub, Int.reduceMul, reduceCtorEq, ↓reduceIte, List.getD_cons_zero, List.getD_cons_succ, fillL, splice, List.take_zero, List.drop_zero, List.drop_succ_cons, List.take_succ_cons, List.drop_nil, List.take_nil, gaU, h0, decide_true]
    repeat refine And.intro (by omega) ?_
    refine And.intro (node_cells _ _ _ _ _ _ _) ?_
    exact end_nT (q := nx) (t := 0) (B := none) (m := 0) (d := 0) (A := none) (n := 0) (c := 0) (ro := false) (w := .int .i64 1) (by first | (simp only [↓gaW, ↓gaV, ↓gaC, ↓gaN, gaP, Nat.reduceEqDiff, Nat.reduceLeDiff, Nat.reduceAdd, Nat.reduceSub, Nat.reduceMul, Int.reduceLT, Int.reduceLE, Int.reduceEq, Int.reduceToNat, Int.reduceAdd, Int.reduceSub, Int.reduceMul, reduceCtorEq, ↓reduceIte]; done) | (simp only [↓gaW, ↓gaV, ↓gaC, ↓gaN, gaP, Nat.reduceEqDiff, Nat.reduceLeDiff, Nat.reduceAdd, Nat.reduceSub, Nat.reduceMul, Int.reduceLT, Int.reduceLE, Int.reduceEq, Int.reduceToNat, Int.reduceAdd, Int.reduceSub, Int.reduceMul, reduceCtorEq, ↓reduceIte]; rfl)) (by first | (simp only [↓gaW, ↓gaV, ↓gaC, ↓gaN, gaP, Nat.reduceEqDiff, Nat.reduceLeDiff, Nat.reduceAdd, Nat.reduceSub, Nat.reduceMul, Int.reduceLT, Int.reduceLE, Int.reduceEq, Int.reduceToNat, Int.reduceAdd, Int.reduceSub, Int.reduceMul, reduceCtorEq, ↓reduceIte]; done) | (simp only [↓gaW, ↓gaV, ↓gaC, ↓gaN, gaP, Nat.reduceEqDiff, Nat.reduceLeDiff, Nat.reduceAdd, Nat.reduceSub, Nat.reduceMul, Int.reduceLT, Int.reduceLE, Int.reduceEq, Int.reduceToNat, Int.reduceAdd, Int.reduceSub, Int.reduceMul, reduceCtorEq, ↓reduceIte]; rfl)) (by simp only [upd_e, if_true]) (by omega) (fun p hp => by simp only [upd_e]; rw [if_neg (by omega), if_neg (by omega)]) ⟨rfl, by omega⟩
  have i0 : IntKind.i64.wrap (8 * (n : Int)) = 8 * (n : Int) := i64_w _ (by omega)
  obtain ⟨k, hk⟩ : ∃ k : Int, 8 * (n : Int) - many = k := ⟨_, rfl⟩
  by_cases h1 : 8 * (n : Int) < many
  · rw [bits_err (by unfold bitsOk; simp; omega)]
    simp only [c_lanyardref05_Bits, ↓gaW, ↓gaV, ↓gaC, ↓gaN, gaP, Nat.reduceEqDiff, Nat.reduceLeDiff, Nat.reduceAdd, Nat.reduceSub, Nat.reduceMul, Int.reduceLT, Int.reduceLE, Int.reduceEq, Int.reduceToNat, Int.reduceAdd, Int.reduceSub, Int.reduceMul, reduceCtorEq, ↓reduceIte, List.getD_cons_zero, List.getD_cons_succ, fillL, splice, List.take_zero, List.drop_zero, List.drop_succ_cons, List.take_succ_cons, List.drop_nil, List.take_nil, gaU, h0, decide_false, i0, h1, decide_true]
    repeat refine And.intro (by omega) ?_
    refine And.intro (node_cells _ _ _ _ _ _ _) ?_
    exact end_nT (q := nx) (t := 0) (B := none) (m := 0) (d := 0) (A := none) (n := 0) (c := 0) (ro := false) (w := .int .i64 1) (by first | (simp only [↓gaW, ↓gaV, ↓gaC, ↓gaN, gaP, Nat.reduceEqDiff, Nat.reduceLeDiff, Nat.reduceAdd, Nat.reduceSub, Nat.reduceMul, Int.reduceLT, Int.reduceLE, Int.reduceEq, Int.reduceToNat, Int.reduceAdd, Int.reduceSub, Int.reduceMul, reduceCtorEq, ↓reduceIte]; done) | (simp only [↓gaW, ↓gaV, ↓gaC, ↓gaN, gaP, Nat.reduceEqDiff, Nat.reduceLeDiff, Nat.reduceAdd, Nat.reduceSub, Nat.reduceMul, Int.reduceLT, Int.reduceLE, Int.reduceEq, Int.reduceToNat, Int.reduceAdd, Int.reduceSub, Int.reduceMul, reduceCtorEq, ↓reduceIte]; rfl)) (by first | (simp only [↓gaW, ↓gaV, ↓gaC, ↓gaN, gaP, Nat.reduceEqDiff, Nat.reduceLeDiff, Nat.reduceAdd, Nat.reduceSub, Nat.reduceMul, Int.reduceLT, Int.reduceLE, Int.reduceEq, Int.reduceToNat, Int.reduceAdd, Int.reduceSub, Int.reduceMul, reduceCtorEq, ↓reduceIte]; done) | (simp only [↓gaW, ↓gaV, ↓gaC, ↓gaN, gaP, Nat.reduceEqDiff, Nat.reduceLeDiff, Nat.reduceAdd, Nat.reduceSub, Nat.reduceMul, Int.reduceLT, Int.reduceLE, Int.reduceEq, Int.reduceToNat, Int.reduceAdd, Int.reduceSub, Int.reduceMul, reduceCtorEq, ↓reduceIte]; rfl)) (by simp only [upd_e, if_true]) (by omega) (fun p hp => by simp only [upd_e]; rw [if_neg (by omega), if_neg (by omega)]) ⟨rfl, by omega⟩
  have i1 : IntKind.i64.wrap (8 * (n : Int) - many) = k := by rw [i64_w _ (by omega)]; omega
  have i3 : IntKind.i64.wrap ((IntKind.i64.wrap (many + 7)).tdiv 8) = (((many + 7).toNat / 8 : Nat) : Int) := by
    rw [i64_w (many + 7) (by omega), Int.tdiv_eq_ediv_of_nonneg (by omega), i64_w _ (by omega)]; omega
  by_cases h2 : (n : Int) = (((many + 7).toNat / 8 : Nat) : Int)
  case neg =>
    rw [bits_err (by unfold bitsOk; simp; omega)]
    simp only [c_lanyardref05_Bits, ↓gaW, ↓gaV, ↓gaC, ↓gaN, gaP, Nat.reduceEqDiff, Nat.reduceLeDiff, Nat.reduceAdd, Nat.reduceSub, Nat.reduceMul, Int.reduceLT, Int.reduceLE, Int.reduceEq, Int.reduceToNat, Int.reduceAdd, Int.reduceSub, Int.reduceMul, reduceCtorEq, ↓reduceIte, List.getD_cons_zero, List.getD_cons_succ, fillL, splice, List.take_zero, List.drop_zero, List.drop_succ_cons, List.take_succ_cons, List.drop_nil, List.take_nil, gaU, h0, decide_false, i0, h1, i3, h2, not_false_eq_true, decide_true]
    repeat refine And.intro (by omega) ?_
    refine And.intro (node_cells _ _ _ _ _ _ _) ?_
    exact end_nT (q := nx) (t := 0) (B := none) (m := 0) (d := 0) (A := none) (n := 0) (c := 0) (ro := false) (w := .int .i64 1) (by first | (simp only [↓gaW, ↓gaV, ↓gaC, ↓gaN, gaP, Nat.reduceEqDiff, Nat.reduceLeDiff, Nat.reduceAdd, Nat.reduceSub, Nat.reduceMul, Int.reduceLT, Int.reduceLE, Int.reduceEq, Int.reduceToNat, Int.reduceAdd, Int.reduceSub, Int.reduceMul, reduceCtorEq, ↓reduceIte]; done) | (simp only [↓gaW, ↓gaV, ↓gaC, ↓gaN, gaP, Nat.reduceEqDiff, Nat.reduceLeDiff, Nat.reduceAdd, Nat.reduceSub, Nat.reduceMul, Int.reduceLT, Int.reduceLE, Int.reduceEq, Int.reduceToNat, Int.reduceAdd, Int.reduceSub, Int.reduceMul, reduceCtorEq, ↓reduceIte]; rfl)) (by first | (simp only [↓gaW, ↓gaV, ↓gaC, ↓gaN, gaP, Nat.reduceEqDiff, Nat.reduceLeDiff, Nat.reduceAdd, Nat.reduceSub, Nat.reduceMul, Int.reduceLT, Int.reduceLE, Int.reduceEq, Int.reduceToNat, Int.reduceAdd, Int.reduceSub, Int.reduceMul, reduceCtorEq, ↓reduceIte]; done) | (simp only [↓gaW, ↓gaV, ↓gaC, ↓gaN, gaP, Nat.reduceEqDiff, Nat.reduceLeDiff, Nat.reduceAdd, Nat.reduceSub, Nat.reduceMul, Int.reduceLT, Int.reduceLE, Int.reduceEq, Int.reduceToNat, Int.reduceAdd, Int.reduceSub, Int.reduceMul, reduceCtorEq, ↓reduceIte]; rfl)) (by simp only [upd_e, if_true]) (by omega) (fun p hp => by simp only [upd_e]; rw [if_neg (by omega), if_neg (by omega)]) ⟨rfl, by omega⟩
  have h2' : ¬ ¬ (n : Int) = (((many + 7).toNat / 8 : Nat) : Int) := fun h => h h2
  obtain ⟨k, rfl⟩ : ∃ j : Nat, k = (j : Int) := ⟨k.toNat, by omega⟩
  have hkt : (8 * (l.length : Int) - many).toNat = k := by rw [hl]; omega
  by_cases h3 : (0 : Int) < (k : Int)
  · obtain ⟨a, cl, ro, rfl, r2, r3, r4, r5⟩ := hA.cells (by omega)
    have i2 : IntKind.i64.wrap ((n : Int) - 1) = ((n - 1 : Nat) : Int) := by rw [i64_w _ (by omega)]; omega
    have hqn : (a.block = nx) = False := by simp; omega
    have c0 : cl.getD (a.off + (n - 1)) undef = .int .u8 ((l.getD (n - 1) 0).toNat : Nat) := by rw [r5 (n - 1) (by omega), getD_u8 (by omega)]
    have hx := (l.getD (n - 1) 0).toNat_lt
    have hp := pow8 (k := k) (by omega)
    have i4 : Int.tmod ((l.getD (n - 1) 0).toNat : Int) ((2 ^ k : Nat) : Int) = (((l.getD (n - 1) 0).toNat % 2 ^ k : Nat) : Int) := by
      rw [Int.tmod_eq_emod_of_nonneg (by omega)]; rfl
    have i5 : ((2 ^ k : Nat) : Int) ≠ 0 := by omega
    by_cases h4 : (((l.getD (n - 1) 0).toNat % 2 ^ k : Nat) : Int) = 0
    · have hr : bitsR l many = .ok ⟨3, UInt8.ofNat k :: l, .nil⟩ := by
        unfold bitsR
        rw [hkt, if_pos]
        unfold bitsOk
        rw [hkt, hl]
        simp only [Bool.and_eq_true, decide_eq_true_eq]
        exact ⟨⟨⟨by omega, by omega⟩, by omega⟩, by omega⟩
      rw [hr]
      simp only [c_lanyardref05_Bits, ↓gaW, ↓gaV, ↓gaC, ↓gaN, gaP, Nat.reduceEqDiff, Nat.reduceLeDiff, Nat.reduceAdd, Nat.reduceSub, Nat.reduceMul, Int.reduceLT, Int.reduceLE, Int.reduceEq, Int.reduceToNat, Int.reduceAdd, Int.reduceSub, Int.reduceMul, reduceCtorEq, ↓reduceIte, List.getD_cons_zero, List.getD_cons_succ, fillL, splice, List.take_zero, List.drop_zero, List.drop_succ_cons, List.take_succ_cons, List.drop_nil, List.take_nil, gaU, h0, decide_false, i0, i1, i2, h1, h2', i3, h3, decide_true, hqn, r3, c0, shl8 (show k ≤ 7 by omega), i4, i5, h4, not_true]
      obtain ⟨A, hAe⟩ : ∃ A : Option Addr, A = some a := ⟨_, rfl⟩
      rw [← hAe] at hA ⊢
      have e8 : Value.int .u8 (IntKind.u8.wrap (k : Int)) = u8V (UInt8.ofNat k) := by
        show _ = Value.int .u8 _
        exact congrArg (Value.int .u8) (by first | rfl | (rw [UInt8.toNat_ofNat', u8_w]; omega))
      rw [e8]
      have hZ : ∀ p, p < nx + 1 → upd (upd gt nx (some (.cells [Value.int .i64 0, .slice none 0 0, .slice none 0 0] false))) (nx + 1) (some (.cells [u8V (UInt8.ofNat k)] false)) p = upd gt nx (some (.cells [Value.int .i64 0, .slice none 0 0, .slice none 0 0] false)) p := fun p hp => by rw [upd_e, if_neg (by omega)]
      have hz : upd (upd gt nx (some (.cells [Value.int .i64 0, .slice none 0 0, .slice none 0 0] false))) (nx + 1) (some (.cells [u8V (UInt8.ofNat k)] false)) (nx + 1) = some (.cells [u8V (UInt8.ofNat k)] false) := by rw [upd_e, if_pos rfl]
      have e1 : rowOf ⟨nx + 1 + 1, b, upd (upd gt nx (some (.cells [Value.int .i64 0, .slice none 0 0, .slice none 0 0] false))) (nx + 1) (some (.cells [u8V (UInt8.ofNat k)] false))⟩ A n = some (l.map u8V) := (hA.keep (nx' := nx + 1 + 1) (by omega) fun p hp => by rw [hZ p (by omega), hF p hp]).rowOf
      repeat refine And.intro (by omega) ?_
      rw [e1]
      simp only [asO_e]
      refine app_litN (bytes := 1) (z := nx + 1) (n := 1) (e := 1) (by omega) hz rfl (by omega) (by simp [hl]) (all_u8 _) (by omega) (by omega) fun A6 x6 g6 l6 k6 r6 => ?_
      rw [Nat.mul_one] at r6
      have hb6 : g6 nx = some (.cells [Value.int .i64 0, .slice none 0 0, .slice none 0 0] false) := by rw [k6 nx (by omega), hZ nx (by omega), hb0]
      have ext : ∀ (g : Nat → Option Blk) (cs : List Value), (∀ p, p ≠ nx → upd g nx (some (.cells cs false)) p = g p) := fun g cs p hp => by simp only [upd_e]; rw [if_neg hp]
      simp only [↓gaW, ↓gaV, ↓gaC, ↓gaN, gaP, Nat.reduceEqDiff, Nat.reduceLeDiff, Nat.reduceAdd, Nat.reduceSub, Nat.reduceMul, Int.reduceLT, Int.reduceLE, Int.reduceEq, Int.reduceToNat, Int.reduceAdd, Int.reduceSub, Int.reduceMul, reduceCtorEq, ↓reduceIte, List.getD_cons_zero, List.getD_cons_succ, fillL, splice, List.take_zero, List.drop_zero, List.drop_succ_cons, List.take_succ_cons, List.drop_nil, List.take_nil, hb6]
      refine And.intro (by omega) (And.intro (node_cells _ _ _ _ _ _ _) ?_)
      refine end_nT (q := nx) (t := 3) (B := A6) (m := 1 + n) (d := 1 + n) (A := none) (n := 0) (c := 0) (ro := false) (w := .int .i64 0) (by first | (simp only [↓gaW, ↓gaV, ↓gaC, ↓gaN, gaP, Nat.reduceEqDiff, Nat.reduceLeDiff, Nat.reduceAdd, Nat.reduceSub, Nat.reduceMul, Int.reduceLT, Int.reduceLE, Int.reduceEq, Int.reduceToNat, Int.reduceAdd, Int.reduceSub, Int.reduceMul, reduceCtorEq, ↓reduceIte]; done) | (simp only [↓gaW, ↓gaV, ↓gaC, ↓gaN, gaP, Nat.reduceEqDiff, Nat.reduceLeDiff, Nat.reduceAdd, Nat.reduceSub, Nat.reduceMul, Int.reduceLT, Int.reduceLE, Int.reduceEq, Int.reduceToNat, Int.reduceAdd, Int.reduceSub, Int.reduceMul, reduceCtorEq, ↓reduceIte]; rfl)) (by first | (simp only [↓gaW, ↓gaV, ↓gaC, ↓gaN, gaP, Nat.reduceEqDiff, Nat.reduceLeDiff, Nat.reduceAdd, Nat.reduceSub, Nat.reduceMul, Int.reduceLT, Int.reduceLE, Int.reduceEq, Int.reduceToNat, Int.reduceAdd, Int.reduceSub, Int.reduceMul, reduceCtorEq, ↓reduceIte]; done) | (simp only [↓gaW, ↓gaV, ↓gaC, ↓gaN, gaP, Nat.reduceEqDiff, Nat.reduceLeDiff, Nat.reduceAdd, Nat.reduceSub, Nat.reduceMul, Int.reduceLT, Int.reduceLE, Int.reduceEq, Int.reduceToNat, Int.reduceAdd, Int.reduceSub, Int.reduceMul, reduceCtorEq, ↓reduceIte]; rfl)) (by simp only [upd_e, if_true]) (by omega) (fun p hp => by rw [ext _ _ p (by omega), k6 p (by omega), hZ p (by omega), hF p hp]) ⟨_, rfl, ?_⟩
      have r7 : RowL (nx + 1) x6 g6 1 A6 (1 + n) ((UInt8.ofNat k :: l).map u8V) := r6
      exact NodeIs.leaf (by omega) ((r7.keep (Nat.le_refl _) fun p hp _ => ext _ _ p (by omega)).wid (by omega)) (Nat.le_refl _)
    · rw [bits_err (by unfold bitsOk; rw [hkt, hl]; simp only [Bool.and_eq_true, decide_eq_true_eq]; omega)]
      simp only [c_lanyardref05_Bits, ↓gaW, ↓gaV, ↓gaC, ↓gaN, gaP, Nat.reduceEqDiff, Nat.reduceLeDiff, Nat.reduceAdd, Nat.reduceSub, Nat.reduceMul, Int.reduceLT, Int.reduceLE, Int.reduceEq, Int.reduceToNat, Int.reduceAdd, Int.reduceSub, Int.reduceMul, reduceCtorEq, ↓reduceIte, List.getD_cons_zero, List.getD_cons_succ, fillL, splice, List.take_zero, List.drop_zero, List.drop_succ_cons, List.take_succ_cons, List.drop_nil, List.take_nil, gaU, h0, decide_false, i0, i1, i2, h1, h2', i3, h3, decide_true, hqn, r3, c0, shl8 (show k ≤ 7 by omega), i4, i5, h4, not_false_eq_true]
      repeat refine And.intro (by omega) ?_
      refine And.intro (node_cells _ _ _ _ _ _ _) ?_
      exact end_nT (q := nx) (t := 0) (B := none) (m := 0) (d := 0) (A := none) (n := 0) (c := 0) (ro := false) (w := .int .i64 1) (by first | (simp only [↓gaW, ↓gaV, ↓gaC, ↓gaN, gaP, Nat.reduceEqDiff, Nat.reduceLeDiff, Nat.reduceAdd, Nat.reduceSub, Nat.reduceMul, Int.reduceLT, Int.reduceLE, Int.reduceEq, Int.reduceToNat, Int.reduceAdd, Int.reduceSub, Int.reduceMul, reduceCtorEq, ↓reduceIte]; done) | (simp only [↓gaW, ↓gaV, ↓gaC, ↓gaN, gaP, Nat.reduceEqDiff, Nat.reduceLeDiff, Nat.reduceAdd, Nat.reduceSub, Nat.reduceMul, Int.reduceLT, Int.reduceLE, Int.reduceEq, Int.reduceToNat, Int.reduceAdd, Int.reduceSub, Int.reduceMul, reduceCtorEq, ↓reduceIte]; rfl)) (by first | (simp only [↓gaW, ↓gaV, ↓gaC, ↓gaN, gaP, Nat.reduceEqDiff, Nat.reduceLeDiff, Nat.reduceAdd, Nat.reduceSub, Nat.reduceMul, Int.reduceLT, Int.reduceLE, Int.reduceEq, Int.reduceToNat, Int.reduceAdd, Int.reduceSub, Int.reduceMul, reduceCtorEq, ↓reduceIte]; done) | (simp only [↓gaW, ↓gaV, ↓gaC, ↓gaN, gaP, Nat.reduceEqDiff, Nat.reduceLeDiff, Nat.reduceAdd, Nat.reduceSub, Nat.reduceMul, Int.reduceLT, Int.reduceLE, Int.reduceEq, Int.reduceToNat, Int.reduceAdd, Int.reduceSub, Int.reduceMul, reduceCtorEq, ↓reduceIte]; rfl)) (by simp only [upd_e, if_true]) (by omega) (fun p hp => by simp only [upd_e]; rw [if_neg (by omega), if_neg (by omega)]) ⟨rfl, by omega⟩
  · have hk0 : k = 0 := by omega
    have hr : bitsR l many = .ok ⟨3, UInt8.ofNat k :: l, .nil⟩ := by
      unfold bitsR
      rw [hkt, if_pos]
      unfold bitsOk
      rw [hkt, hl, hk0]
      simp only [Bool.and_eq_true, decide_eq_true_eq, Nat.pow_zero, Nat.mod_one]
      exact ⟨⟨⟨by omega, by omega⟩, by omega⟩, trivial⟩
    rw [hr]
    simp only [c_lanyardref05_Bits, ↓gaW, ↓gaV, ↓gaC, ↓gaN, gaP, Nat.reduceEqDiff, Nat.reduceLeDiff, Nat.reduceAdd, Nat.reduceSub, Nat.reduceMul, Int.reduceLT, Int.reduceLE, Int.reduceEq, Int.reduceToNat, Int.reduceAdd, Int.reduceSub, Int.reduceMul, reduceCtorEq, ↓reduceIte, List.getD_cons_zero, List.getD_cons_succ, fillL, splice, List.take_zero, List.drop_zero, List.drop_succ_cons, List.take_succ_cons, List.drop_nil, List.take_nil, gaU, h0, decide_false, i0, i1, h1, h2', i3, h3, decide_true]
    have e8 : Value.int .u8 (IntKind.u8.wrap (k : Int)) = u8V (UInt8.ofNat k) := by
      show _ = Value.int .u8 _
      exact congrArg (Value.int .u8) (by first | rfl | (rw [UInt8.toNat_ofNat', u8_w]; omega))
    rw [e8]
    have hZ : ∀ p, p < nx + 1 → upd (upd gt nx (some (.cells [Value.int .i64 0, .slice none 0 0, .slice none 0 0] false))) (nx + 1) (some (.cells [u8V (UInt8.ofNat k)] false)) p = upd gt nx (some (.cells [Value.int .i64 0, .slice none 0 0, .slice none 0 0] false)) p := fun p hp => by rw [upd_e, if_neg (by omega)]
    have hz : upd (upd gt nx (some (.cells [Value.int .i64 0, .slice none 0 0, .slice none 0 0] false))) (nx + 1) (some (.cells [u8V (UInt8.ofNat k)] false)) (nx + 1) = some (.cells [u8V (UInt8.ofNat k)] false) := by rw [upd_e, if_pos rfl]
    have e1 : rowOf ⟨nx + 1 + 1, b, upd (upd gt nx (some (.cells [Value.int .i64 0, .slice none 0 0, .slice none 0 0] false))) (nx + 1) (some (.cells [u8V (UInt8.ofNat k)] false))⟩ A n = some (l.map u8V) := (hA.keep (nx' := nx + 1 + 1) (by omega) fun p hp => by rw [hZ p (by omega), hF p hp]).rowOf
    repeat refine And.intro (by omega) ?_
    rw [e1]
    simp only [asO_e]
    refine app_litN (bytes := 1) (z := nx + 1) (n := 1) (e := 1) (by omega) hz rfl (by omega) (by simp [hl]) (all_u8 _) (by omega) (by omega) fun A6 x6 g6 l6 k6 r6 => ?_
    rw [Nat.mul_one] at r6
    have hb6 : g6 nx = some (.cells [Value.int .i64 0, .slice none 0 0, .slice none 0 0] false) := by rw [k6 nx (by omega), hZ nx (by omega), hb0]
    have ext : ∀ (g : Nat → Option Blk) (cs : List Value), (∀ p, p ≠ nx → upd g nx (some (.cells cs false)) p = g p) := fun g cs p hp => by simp only [upd_e]; rw [if_neg hp]
    simp only [↓gaW, ↓gaV, ↓gaC, ↓gaN, gaP, Nat.reduceEqDiff, Nat.reduceLeDiff, Nat.reduceAdd, Nat.reduceSub, Nat.reduceMul, Int.reduceLT, Int.reduceLE, Int.reduceEq, Int.reduceToNat, Int.reduceAdd, Int.reduceSub, Int.reduceMul, reduceCtorEq, ↓reduceIte, List.getD_cons_zero, List.getD_cons_succ, fillL, splice, List.take_zero, List.drop_zero, List.drop_succ_cons, List.take_succ_cons, List.drop_nil, List.take_nil, hb6]
    refine And.intro (by omega) (And.intro (node_cells _ _ _ _ _ _ _) ?_)
    refine end_nT (q := nx) (t := 3) (B := A6) (m := 1 + n) (d := 1 + n) (A := none) (n := 0) (c := 0) (ro := false) (w := .int .i64 0) (by first | (simp only [↓gaW, ↓gaV, ↓gaC, ↓gaN, gaP, Nat.reduceEqDiff, Nat.reduceLeDiff, Nat.reduceAdd, Nat.reduceSub, Nat.reduceMul, Int.reduceLT, Int.reduceLE, Int.reduceEq, Int.reduceToNat, Int.reduceAdd, Int.reduceSub, Int.reduceMul, reduceCtorEq, ↓reduceIte]; done) | (simp only [↓gaW, ↓gaV, ↓gaC, ↓gaN, gaP, Nat.reduceEqDiff, Nat.reduceLeDiff, Nat.reduceAdd, Nat.reduceSub, Nat.reduceMul, Int.reduceLT, Int.reduceLE, Int.reduceEq, Int.reduceToNat, Int.reduceAdd, Int.reduceSub, Int.reduceMul, reduceCtorEq, ↓reduceIte]; rfl)) (by first | (simp only [↓gaW, ↓gaV, ↓gaC, ↓gaN, gaP, Nat.reduceEqDiff, Nat.reduceLeDiff, Nat.reduceAdd, Nat.reduceSub, Nat.reduceMul, Int.reduceLT, Int.reduceLE, Int.reduceEq, Int.reduceToNat, Int.reduceAdd, Int.reduceSub, Int.reduceMul, reduceCtorEq, ↓reduceIte]; done) | (simp only [↓gaW, ↓gaV, ↓gaC, ↓gaN, gaP, Nat.reduceEqDiff, Nat.reduceLeDiff, Nat.reduceAdd, Nat.reduceSub, Nat.reduceMul, Int.reduceLT, Int.reduceLE, Int.reduceEq, Int.reduceToNat, Int.reduceAdd, Int.reduceSub, Int.reduceMul, reduceCtorEq, ↓reduceIte]; rfl)) (by simp only [upd_e, if_true]) (by omega) (fun p hp => by rw [ext _ _ p (by omega), k6 p (by omega), hZ p (by omega), hF p hp]) ⟨_, rfl, ?_⟩
    have r7 : RowL (nx + 1) x6 g6 1 A6 (1 + n) ((UInt8.ofNat k :: l).map u8V) := r6
    exact NodeIs.leaf (by omega) ((r7.keep (Nat.le_refl _) fun p hp _ => ext _ _ p (by omega)).wid (by omega)) (Nat.le_refl _)
end
end Go.Ga

/- Truths, and the bits of an element. -/
namespace Go.Ga
open Go Go.Proofs
set_option linter.unusedSimpArgs false
set_option linter.unusedVariables false
set_option maxRecDepth 100000
attribute [local irreducible] appendK

def boolE (is : Bool) : Fo.El := ⟨1, [if is then 255 else 0], .nil⟩
noncomputable def trueR (x : Fo.El) : Bool × Nat := open Classical in if x = boolE true then (true, 0) else if x = boolE false then (false, 0) else (false, 2)
noncomputable def ofR (x : Fo.El) : List UInt8 × Int × Nat := open Classical in if x.b ≠ [] ∧ bitsR x.b.tail (8 * (x.b.tail.length : Int) - (x.b.headD 0).toNat) = .ok x then (x.b.tail, 8 * (x.b.tail.length : Int) - (x.b.headD 0).toNat, 0) else ([], 0, 2)
theorem boolE_ws (is : Bool) : (boolE is).f.ws ≤ 2 := by cases is <;> decide
theorem bitsR_k {l : List UInt8} {many : Int} {y : Fo.El} (h : bitsR l many = .ok y) : y.k = .nil := by
  unfold bitsR at h
  split at h
  · injection h with h; rw [← h]
  · cases h
theorem bitsR_ws {l : List UInt8} {many : Int} {y : Fo.El} (h : bitsR l many = .ok y) : y.f.ws ≤ l.length + 2 := by
  unfold bitsR at h
  split at h
  · injection h with h; rw [← h]
    show 1 + (_ :: l).length + 0 + 0 ≤ _
    simp only [List.length_cons]; omega
  · cases h

section
variable {nx : Nat} {gt : Nat → Option Blk}



theorem ct_Bool (is : Bool) : Ct Tryd.prog 26 [.bool is] nx gt fun v x g => NodeIs nx x g v (boolE is) := by
  refine Ct.of hmx r_scalar_Bool (by simp [c_scalar_Bool]) fun b hb => ?_
  have hF : ∀ q, q < nx → upd gt nx (some (.cells [Value.int .i64 0, .slice none 0 0, .slice none 0 0] false)) q = gt q := fun q hq => by simp only [upd_e]; rw [if_neg (by omega)]
  have hb0 : upd gt nx (some (.cells [Value.int .i64 0, .slice none 0 0, .slice none 0 0] false)) nx = some (.cells [Value.int .i64 0, .slice none 0 0, .slice none 0 0] false) := by simp only [upd_e, if_true]
  have hZ : ∀ (v : Value) p, p < nx + 1 → upd (upd gt nx (some (.cells [Value.int .i64 0, .slice none 0 0, .slice none 0 0] false))) (nx + 1) (some (.cells [v] false)) p = upd gt nx (some (.cells [Value.int .i64 0, .slice none 0 0, .slice none 0 0] false)) p := fun v p hp => by rw [upd_e, if_neg (by omega)]
  have ext : ∀ (g : Nat → Option Blk) (cs : List Value), (∀ p, p ≠ nx → upd g nx (some (.cells cs false)) p = g p) := fun g cs p hp => by simp only [upd_e]; rw [if_neg hp]
  have hnn : (nx = nx + 1) = False := by simp
  cases is with
  | true =>
    simp only [c_scalar_Bool, ↓gaW, ↓gaV, ↓gaC, ↓gaN, gaP, Nat.reduceEqDiff, Nat.reduceLeDiff, Nat.reduceAdd, Nat.reduceSub, Nat.reduceMul, Int.reduceLT, Int.reduceLE, Int.reduceEq, Int.reduceToNat, Int.reduceAdd, Int.reduceSub, Int.reduceMul, reduceCtorEq, ↓reduceIte, List.getD_cons_zero, List.getD_cons_succ, fillL, splice, List.take_zero, List.drop_zero, List.drop_succ_cons, List.take_succ_cons, List.drop_nil, List.take_nil, gaU, hnn]
    repeat refine And.intro (by omega) ?_
    refine And.intro (node_cells _ _ _ _ _ _ _) ?_
    refine end_nd (q := nx) (t := 1) (B := some ⟨nx + 1, 0, none⟩) (m := 1) (d := 1) (A := none) (n := 0) (c := 0) (ro := false) (by first | (simp only [↓gaW, ↓gaV, ↓gaC, ↓gaN, gaP, Nat.reduceEqDiff, Nat.reduceLeDiff, Nat.reduceAdd, Nat.reduceSub, Nat.reduceMul, Int.reduceLT, Int.reduceLE, Int.reduceEq, Int.reduceToNat, Int.reduceAdd, Int.reduceSub, Int.reduceMul, reduceCtorEq, ↓reduceIte]; done) | (simp only [↓gaW, ↓gaV, ↓gaC, ↓gaN, gaP, Nat.reduceEqDiff, Nat.reduceLeDiff, Nat.reduceAdd, Nat.reduceSub, Nat.reduceMul, Int.reduceLT, Int.reduceLE, Int.reduceEq, Int.reduceToNat, Int.reduceAdd, Int.reduceSub, Int.reduceMul, reduceCtorEq, ↓reduceIte]; rfl)) (by simp only [upd_e, if_true]) (by omega) (fun p hp => by rw [ext _ _ p (by omega), hZ _ p (by omega), hF p hp]) ?_
    refine NodeIs.leaf (l := [255]) (by omega) ⟨?_, fun _ a ha => by injection ha with ha; subst ha; show nx ≤ nx + 1; omega⟩ (Nat.le_refl _)
    exact ⟨fun a h => by injection h with h; subst h; exact .inl rfl, rfl, fun _ => ⟨⟨nx + 1, 0, none⟩, [u8V 255], false, rfl, Nat.lt_succ_self _, by rw [ext _ _ (nx + 1) (by omega), upd_e, if_pos rfl]; rfl, by simp, fun i hi => by rw [Nat.zero_add]; rfl⟩⟩
  | false =>
    simp only [c_scalar_Bool, ↓gaW, ↓gaV, ↓gaC, ↓gaN, gaP, Nat.reduceEqDiff, Nat.reduceLeDiff, Nat.reduceAdd, Nat.reduceSub, Nat.reduceMul, Int.reduceLT, Int.reduceLE, Int.reduceEq, Int.reduceToNat, Int.reduceAdd, Int.reduceSub, Int.reduceMul, reduceCtorEq, ↓reduceIte, List.getD_cons_zero, List.getD_cons_succ, fillL, splice, List.take_zero, List.drop_zero, List.drop_succ_cons, List.take_succ_cons, List.drop_nil, List.take_nil, gaU, hnn]
    repeat refine And.intro (by omega) ?_
    refine And.intro (node_cells _ _ _ _ _ _ _) ?_
    refine end_nd (q := nx) (t := 1) (B := some ⟨nx + 1, 0, none⟩) (m := 1) (d := 1) (A := none) (n := 0) (c := 0) (ro := false) (by first | (simp only [↓gaW, ↓gaV, ↓gaC, ↓gaN, gaP, Nat.reduceEqDiff, Nat.reduceLeDiff, Nat.reduceAdd, Nat.reduceSub, Nat.reduceMul, Int.reduceLT, Int.reduceLE, Int.reduceEq, Int.reduceToNat, Int.reduceAdd, Int.reduceSub, Int.reduceMul, reduceCtorEq, ↓reduceIte]; done) | (simp only [↓gaW, ↓gaV, ↓gaC, ↓gaN, gaP, Nat.reduceEqDiff, Nat.reduceLeDiff, Nat.reduceAdd, Nat.reduceSub, Nat.reduceMul, Int.reduceLT, Int.reduceLE, Int.reduceEq, Int.reduceToNat, Int.reduceAdd, Int.reduceSub, Int.reduceMul, reduceCtorEq, ↓reduceIte]; rfl)) (by simp only [upd_e, if_true]) (by omega) (fun p hp => by rw [ext _ _ p (by omega), hZ _ p (by omega), hF p hp]) ?_
    refine NodeIs.leaf (l := [0]) (by omega) ⟨?_, fun _ a ha => by injection ha with ha; subst ha; show nx ≤ nx + 1; omega⟩ (Nat.le_refl _)
    exact ⟨fun a h => by injection h with h; subst h; exact .inl rfl, rfl, fun _ => ⟨⟨nx + 1, 0, none⟩, [u8V 0], false, rfl, Nat.lt_succ_self _, by rw [ext _ _ (nx + 1) (by omega), upd_e, if_pos rfl]; rfl, by simp, fun i hi => by rw [Nat.zero_add]; rfl⟩⟩
theorem ct_rBool (is : Bool) : Ct Tryd.prog 27 [.bool is] nx gt fun v x g => NodeIs nx x g v (boolE is) := by
  refine Ct.of hmx r_lanyardref05_Bool (by simp [c_lanyardref05_Bool]) fun b hb => ?_
  have hF : ∀ q, q < nx → upd gt nx (some (.cells [Value.int .i64 0, .slice none 0 0, .slice none 0 0] false)) q = gt q := fun q hq => by simp only [upd_e]; rw [if_neg (by omega)]
  have hb0 : upd gt nx (some (.cells [Value.int .i64 0, .slice none 0 0, .slice none 0 0] false)) nx = some (.cells [Value.int .i64 0, .slice none 0 0, .slice none 0 0] false) := by simp only [upd_e, if_true]
  have hZ : ∀ (v : Value) p, p < nx + 1 → upd (upd gt nx (some (.cells [Value.int .i64 0, .slice none 0 0, .slice none 0 0] false))) (nx + 1) (some (.cells [v] false)) p = upd gt nx (some (.cells [Value.int .i64 0, .slice none 0 0, .slice none 0 0] false)) p := fun v p hp => by rw [upd_e, if_neg (by omega)]
  have ext : ∀ (g : Nat → Option Blk) (cs : List Value), (∀ p, p ≠ nx → upd g nx (some (.cells cs false)) p = g p) := fun g cs p hp => by simp only [upd_e]; rw [if_neg hp]
  have hnn : (nx = nx + 1) = False := by simp
  cases is with
  | true =>
    simp only [c_lanyardref05_Bool, ↓gaW, ↓gaV, ↓gaC, ↓gaN, gaP, Nat.reduceEqDiff, Nat.reduceLeDiff, Nat.reduceAdd, Nat.reduceSub, Nat.reduceMul, Int.reduceLT, Int.reduceLE, Int.reduceEq, Int.reduceToNat, Int.reduceAdd, Int.reduceSub, Int.reduceMul, reduceCtorEq, ↓reduceIte, List.getD_cons_zero, List.getD_cons_succ, fillL, splice, List.take_zero, List.drop_zero, List.drop_succ_cons, List.take_succ_cons, List.drop_nil, List.take_nil, gaU, hnn]
    repeat refine And.intro (by omega) ?_
    refine And.intro (node_cells _ _ _ _ _ _ _) ?_
    refine end_nd (q := nx) (t := 1) (B := some ⟨nx + 1, 0, none⟩) (m := 1) (d := 1) (A := none) (n := 0) (c := 0) (ro := false) (by first | (simp only [↓gaW, ↓gaV, ↓gaC, ↓gaN, gaP, Nat.reduceEqDiff, Nat.reduceLeDiff, Nat.reduceAdd, Nat.reduceSub, Nat.reduceMul, Int.reduceLT, Int.reduceLE, Int.reduceEq, Int.reduceToNat, Int.reduceAdd, Int.reduceSub, Int.reduceMul, reduceCtorEq, ↓reduceIte]; done) | (simp only [↓gaW, ↓gaV, ↓gaC, ↓gaN, gaP, Nat.reduceEqDiff, Nat.reduceLeDiff, Nat.reduceAdd, Nat.reduceSub, Nat.reduceMul, Int.reduceLT, Int.reduceLE, Int.reduceEq, Int.reduceToNat, Int.reduceAdd, Int.reduceSub, Int.reduceMul, reduceCtorEq, ↓reduceIte]; rfl)) (by simp only [upd_e, if_true]) (by omega) (fun p hp => by rw [ext _ _ p (by omega), hZ _ p (by omega), hF p hp]) ?_
    refine NodeIs.leaf (l := [255]) (by omega) ⟨?_, fun _ a ha => by injection ha with ha; subst ha; show nx ≤ nx + 1; omega⟩ (Nat.le_refl _)
    exact ⟨fun a h => by injection h with h; subst h; exact .inl rfl, rfl, fun _ => ⟨⟨nx + 1, 0, none⟩, [u8V 255], false, rfl, Nat.lt_succ_self _, by rw [ext _ _ (nx + 1) (by omega), upd_e, if_pos rfl]; rfl, by simp, fun i hi => by rw [Nat.zero_add]; rfl⟩⟩
  | false =>
    simp only [c_lanyardref05_Bool, ↓gaW, ↓gaV, ↓gaC, ↓gaN, gaP, Nat.reduceEqDiff, Nat.reduceLeDiff, Nat.reduceAdd, Nat.reduceSub, Nat.reduceMul, Int.reduceLT, Int.reduceLE, Int.reduceEq, Int.reduceToNat, Int.reduceAdd, Int.reduceSub, Int.reduceMul, reduceCtorEq, ↓reduceIte, List.getD_cons_zero, List.getD_cons_succ, fillL, splice, List.take_zero, List.drop_zero, List.drop_succ_cons, List.take_succ_cons, List.drop_nil, List.take_nil, gaU, hnn]
    repeat refine And.intro (by omega) ?_
    refine And.intro (node_cells _ _ _ _ _ _ _) ?_
    refine end_nd (q := nx) (t := 1) (B := some ⟨nx + 1, 0, none⟩) (m := 1) (d := 1) (A := none) (n := 0) (c := 0) (ro := false) (by first | (simp only [↓gaW, ↓gaV, ↓gaC, ↓gaN, gaP, Nat.reduceEqDiff, Nat.reduceLeDiff, Nat.reduceAdd, Nat.reduceSub, Nat.reduceMul, Int.reduceLT, Int.reduceLE, Int.reduceEq, Int.reduceToNat, Int.reduceAdd, Int.reduceSub, Int.reduceMul, reduceCtorEq, ↓reduceIte]; done) | (simp only [↓gaW, ↓gaV, ↓gaC, ↓gaN, gaP, Nat.reduceEqDiff, Nat.reduceLeDiff, Nat.reduceAdd, Nat.reduceSub, Nat.reduceMul, Int.reduceLT, Int.reduceLE, Int.reduceEq, Int.reduceToNat, Int.reduceAdd, Int.reduceSub, Int.reduceMul, reduceCtorEq, ↓reduceIte]; rfl)) (by simp only [upd_e, if_true]) (by omega) (fun p hp => by rw [ext _ _ p (by omega), hZ _ p (by omega), hF p hp]) ?_
    refine NodeIs.leaf (l := [0]) (by omega) ⟨?_, fun _ a ha => by injection ha with ha; subst ha; show nx ≤ nx + 1; omega⟩ (Nat.le_refl _)
    exact ⟨fun a h => by injection h with h; subst h; exact .inl rfl, rfl, fun _ => ⟨⟨nx + 1, 0, none⟩, [u8V 0], false, rfl, Nat.lt_succ_self _, by rw [ext _ _ (nx + 1) (by omega), upd_e, if_pos rfl]; rfl, by simp, fun i hi => by rw [Nat.zero_add]; rfl⟩⟩
theorem ct_True1 {q : Nat} {ro is : Bool} (hq : q < nx) (hg : gt q = some (.cells [.bool is] ro)) : Ct Tryd.prog 55 [.pointer (some ⟨q, 0, none⟩)] nx gt fun v x g => NErr nx x g v (.ok (boolE is)) := by
  refine Ct.of hmx r_scalar_True_1 (by simp [c_scalar_True_1]) fun b hb => ?_
  have hF : ∀ q, q < nx → upd gt nx (some (.cells [Value.int .i64 0, .slice none 0 0, .slice none 0 0] false)) q = gt q := fun q hq => by simp only [upd_e]; rw [if_neg (by omega)]
  have hb0 : upd gt nx (some (.cells [Value.int .i64 0, .slice none 0 0, .slice none 0 0] false)) nx = some (.cells [Value.int .i64 0, .slice none 0 0, .slice none 0 0] false) := by simp only [upd_e, if_true]
  have hqn : (q = nx) = False := by simp; omega
  simp only [c_scalar_True_1, ↓gaW, ↓gaV, ↓gaC, ↓gaN, gaP, Nat.reduceEqDiff, Nat.reduceLeDiff, Nat.reduceAdd, Nat.reduceSub, Nat.reduceMul, Int.reduceLT, Int.reduceLE, Int.reduceEq, Int.reduceToNat, Int.reduceAdd, Int.reduceSub, Int.reduceMul, reduceCtorEq, ↓reduceIte, List.getD_cons_zero, List.getD_cons_succ, fillL, splice, List.take_zero, List.drop_zero, List.drop_succ_cons, List.take_succ_cons, List.drop_nil, List.take_nil, gaU, hqn, hg, List.getD_cons_zero]
  generalize upd gt nx (some (.cells [Value.int .i64 0, .slice none 0 0, .slice none 0 0] false)) = g0 at *
  repeat refine And.intro (by omega) ?_
  refine callK_of (ct_Bool is) (fun v x1 g1 l1 k1 hC => ?_) (by omega)
  obtain ⟨B, m, d, A, n', c, ks, rfl, hN⟩ := hC
  have F1 : ∀ p, p < nx → g1 p = gt p := fun p hp => by rw [k1 p (by omega), hF p hp]
  have hb1 : g1 nx = some (.cells [Value.int .i64 0, .slice none 0 0, .slice none 0 0] false) := by rw [k1 nx (by omega), hb0]
  simp only [↓gaW, ↓gaV, ↓gaC, ↓gaN, gaP, Nat.reduceEqDiff, Nat.reduceLeDiff, Nat.reduceAdd, Nat.reduceSub, Nat.reduceMul, Int.reduceLT, Int.reduceLE, Int.reduceEq, Int.reduceToNat, Int.reduceAdd, Int.reduceSub, Int.reduceMul, reduceCtorEq, ↓reduceIte, List.getD_cons_zero, List.getD_cons_succ, fillL, splice, List.take_zero, List.drop_zero, List.drop_succ_cons, List.take_succ_cons, List.drop_nil, List.take_nil, hb1]
  refine And.intro (by omega) (And.intro (node_cells _ _ _ _ _ _ _) ?_)
  have ext : ∀ (cs : List Value), (∀ p, p ≠ nx → upd g1 nx (some (.cells cs false)) p = g1 p) := fun cs p hp => by simp only [upd_e]; rw [if_neg hp]
  rw [end_r, res_cN (by first | (simp only [↓gaW, ↓gaV, ↓gaC, ↓gaN, gaP, Nat.reduceEqDiff, Nat.reduceLeDiff, Nat.reduceAdd, Nat.reduceSub, Nat.reduceMul, Int.reduceLT, Int.reduceLE, Int.reduceEq, Int.reduceToNat, Int.reduceAdd, Int.reduceSub, Int.reduceMul, reduceCtorEq, ↓reduceIte]; done) | (simp only [↓gaW, ↓gaV, ↓gaC, ↓gaN, gaP, Nat.reduceEqDiff, Nat.reduceLeDiff, Nat.reduceAdd, Nat.reduceSub, Nat.reduceMul, Int.reduceLT, Int.reduceLE, Int.reduceEq, Int.reduceToNat, Int.reduceAdd, Int.reduceSub, Int.reduceMul, reduceCtorEq, ↓reduceIte]; rfl)) (by simp only [upd_e, if_true]; rfl) (by simp)]
  simp only [res_t, res_nil, Option.map_some, asO_e, one2, List.drop_zero, ↓gaW, ↓gaV, ↓gaC, ↓gaN, gaP, Nat.reduceEqDiff, Nat.reduceLeDiff, Nat.reduceAdd, Nat.reduceSub, Nat.reduceMul, Int.reduceLT, Int.reduceLE, Int.reduceEq, Int.reduceToNat, Int.reduceAdd, Int.reduceSub, Int.reduceMul, reduceCtorEq, ↓reduceIte, List.getD_cons_zero, List.getD_cons_succ, fillL, splice, List.take_zero, List.drop_zero, List.drop_succ_cons, List.take_succ_cons, List.drop_nil, List.take_nil]
  refine ⟨by omega, fun p hp => by rw [if_neg (by omega), F1 p hp], _, rfl, B, m, d, A, n', c, ks, rfl, (hN.keep (Nat.le_refl _) fun p hp _ => ext _ p (by omega)).wid (by omega)⟩
theorem ct_justT {x : Fo.El} {w : Bool} {is : Bool} {clo : Nat} {caps : Array Value} {r : Except Nat Fo.El} {B : Option Addr} {m d : Nat} {A : Option Addr} {n c : Nat} {ks : List Value} (h : NdR nx gt x B m d A n c ks) (hxw : x.f.ws < 1000000000) (hyw : ∀ y, r = .ok y → y.f.ws < 1000000000)
    (hclo : ∀ (nx' : Nat) (g : Nat → Option Blk), nx ≤ nx' → (∀ p, p < nx → g p = gt p) → Ct Tryd.prog clo caps.toList nx' g fun v x g => NErr nx' x g v r) :
    Ct Tryd.prog 54 [.bool w, .bool is, nodeV x.t B m d A n c, .func (.func clo) #[] caps] nx gt fun v _ _ => ∃ b : Bool, (b = true ↔ justP is x r) ∧ v = if b then .tuple #[.bool w, .int .i64 0] else .tuple #[.bool false, .int .i64 2] := by
  refine Ct.of hmx r_scalar_just_bool_ (by simp [c_scalar_just_bool_]) fun b hb => ?_
  have hF : ∀ q, q < nx → upd gt nx (some (.cells (nodeL x.t B m d A n c) false)) q = gt q := fun q hq => by simp only [upd_e]; rw [if_neg (by omega)]
  have hb0 : upd gt nx (some (.cells (nodeL x.t B m d A n c) false)) nx = some (.cells (nodeL x.t B m d A n c) false) := by simp only [upd_e, if_true]
  cases is with
  | false =>
    simp only [c_scalar_just_bool_, ↓gaW, ↓gaV, ↓gaC, ↓gaN, gaP, Nat.reduceEqDiff, Nat.reduceLeDiff, Nat.reduceAdd, Nat.reduceSub, Nat.reduceMul, Int.reduceLT, Int.reduceLE, Int.reduceEq, Int.reduceToNat, Int.reduceAdd, Int.reduceSub, Int.reduceMul, reduceCtorEq, ↓reduceIte, gaE, implies_true, Nat.le_refl, Int.sub_zero, Nat.sub_zero, Int.le_refl, true_or, or_true, List.getD_cons_zero, List.getD_cons_succ, fillL, splice, List.take_zero, List.drop_zero, List.drop_succ_cons, List.take_succ_cons, List.drop_nil, List.take_nil, gaU, Bool.not_false]
    exact ⟨by omega, hF, false, by simp [justP], rfl⟩
  | true =>
    simp only [c_scalar_just_bool_, ↓gaW, ↓gaV, ↓gaC, ↓gaN, gaP, Nat.reduceEqDiff, Nat.reduceLeDiff, Nat.reduceAdd, Nat.reduceSub, Nat.reduceMul, Int.reduceLT, Int.reduceLE, Int.reduceEq, Int.reduceToNat, Int.reduceAdd, Int.reduceSub, Int.reduceMul, reduceCtorEq, ↓reduceIte, List.getD_cons_zero, List.getD_cons_succ, fillL, splice, List.take_zero, List.drop_zero, List.drop_succ_cons, List.take_succ_cons, List.drop_nil, List.take_nil, gaU, Bool.not_true]
    generalize upd gt nx (some (.cells (nodeL x.t B m d A n c) false)) = g0 at *
    refine callK_of (hclo (nx + 1) g0 (by omega) hF) (fun v x1 g1 l1 k1 hC => ?_) (by omega)
    have F1 : ∀ p, p < nx → g1 p = gt p := fun p hp => by rw [k1 p (by omega), hF p hp]
    have hb1 : g1 nx = some (.cells (nodeL x.t B m d A n c) false) := by rw [k1 nx (by omega), hb0]
    have hnx1 : (nx = x1) = False := by simp; omega
    cases r with
    | error e =>
      obtain ⟨rfl, he⟩ := hC
      have he0 : ¬ (e : Int) = 0 := by omega
      simp only [↓gaW, ↓gaV, ↓gaC, ↓gaN, gaP, Nat.reduceEqDiff, Nat.reduceLeDiff, Nat.reduceAdd, Nat.reduceSub, Nat.reduceMul, Int.reduceLT, Int.reduceLE, Int.reduceEq, Int.reduceToNat, Int.reduceAdd, Int.reduceSub, Int.reduceMul, reduceCtorEq, ↓reduceIte, gaE, implies_true, Nat.le_refl, Int.sub_zero, Nat.sub_zero, Int.le_refl, true_or, or_true, List.getD_cons_zero, List.getD_cons_succ, fillL, splice, List.take_zero, List.drop_zero, List.drop_succ_cons, List.take_succ_cons, List.drop_nil, List.take_nil, gaU, he0, decide_false, Bool.not_false]
      repeat refine And.intro (by omega) ?_
      refine And.intro (node_cells _ _ _ _ _ _ _) ?_
      refine ⟨by omega, fun p hp => by rw [if_neg (by omega), if_neg (by omega), F1 p hp], false, by simp [justP], rfl⟩
    | ok y =>
      obtain ⟨u, rfl, B', m', d', A', n', c', ks', rfl, hN⟩ := hC
      obtain ⟨g2, e2⟩ : ∃ g', g' = upd (upd g1 x1 (some (.cells [Value.int .i64 0, .slice none 0 0, .slice none 0 0] false))) x1 (some (.cells (nodeL y.t B' m' d' A' n' c') false)) := ⟨_, rfl⟩
      have G2 : ∀ p, p < x1 → g2 p = g1 p := fun p hp => by rw [e2]; simp only [upd_e]; rw [if_neg (by omega), if_neg (by omega)]
      have hb2 : g2 nx = some (.cells (nodeL x.t B m d A n c) false) := by rw [G2 nx (by omega), hb1]
      have hy := hyw y rfl
      simp only [↓gaW, ↓gaV, ↓gaC, ↓gaN, gaP, Nat.reduceEqDiff, Nat.reduceLeDiff, Nat.reduceAdd, Nat.reduceSub, Nat.reduceMul, Int.reduceLT, Int.reduceLE, Int.reduceEq, Int.reduceToNat, Int.reduceAdd, Int.reduceSub, Int.reduceMul, reduceCtorEq, ↓reduceIte, List.getD_cons_zero, List.getD_cons_succ, fillL, splice, List.take_zero, List.drop_zero, List.drop_succ_cons, List.take_succ_cons, List.drop_nil, List.take_nil, gaU, hnx1, hb1, decide_true, decide_false, Bool.not_true]
      repeat refine And.intro (by omega) ?_
      refine And.intro (node_cells _ _ _ _ _ _ _) ?_
      repeat refine And.intro (by omega) ?_
      rw [← e2]; clear e2
      refine callK_of (ct_same (hN.r.keep (x' := x1 + 1) (by omega) G2) (h.keep (x' := x1 + 1) (by omega) fun p hp => by rw [G2 p (by omega), F1 p hp]) hy hxw) (fun v x3 g3 l3 k3 hC => ?_) (by omega)
      obtain ⟨s, rfl, hs⟩ := hC
      have F3 : ∀ p, p < nx → g3 p = gt p := fun p hp => by rw [k3 p (by omega), G2 p (by omega), F1 p hp]
      cases s with
      | false =>
        simp only [↓gaW, ↓gaV, ↓gaC, ↓gaN, gaP, Nat.reduceEqDiff, Nat.reduceLeDiff, Nat.reduceAdd, Nat.reduceSub, Nat.reduceMul, Int.reduceLT, Int.reduceLE, Int.reduceEq, Int.reduceToNat, Int.reduceAdd, Int.reduceSub, Int.reduceMul, reduceCtorEq, ↓reduceIte, gaE, implies_true, Nat.le_refl, Int.sub_zero, Nat.sub_zero, Int.le_refl, true_or, or_true, List.getD_cons_zero, List.getD_cons_succ, fillL, splice, List.take_zero, List.drop_zero, List.drop_succ_cons, List.take_succ_cons, List.drop_nil, List.take_nil, Bool.not_false]
        refine ⟨by omega, F3, false, ?_, rfl⟩
        simp only [Bool.false_eq_true, false_iff] at hs ⊢
        rintro ⟨_, z, hz, hal⟩
        injection hz with hz; subst hz
        exact hs hal
      | true =>
        simp only [↓gaW, ↓gaV, ↓gaC, ↓gaN, gaP, Nat.reduceEqDiff, Nat.reduceLeDiff, Nat.reduceAdd, Nat.reduceSub, Nat.reduceMul, Int.reduceLT, Int.reduceLE, Int.reduceEq, Int.reduceToNat, Int.reduceAdd, Int.reduceSub, Int.reduceMul, reduceCtorEq, ↓reduceIte, gaE, implies_true, Nat.le_refl, Int.sub_zero, Nat.sub_zero, Int.le_refl, true_or, or_true, List.getD_cons_zero, List.getD_cons_succ, fillL, splice, List.take_zero, List.drop_zero, List.drop_succ_cons, List.take_succ_cons, List.drop_nil, List.take_nil, Bool.not_true]
        exact ⟨by omega, F3, true, by simp only [true_iff]; exact ⟨rfl, y, rfl, hs.1 rfl⟩, rfl⟩
end
end Go.Ga

/- The truth of an element. -/
namespace Go.Ga
open Go Go.Proofs
set_option linter.unusedSimpArgs false
set_option linter.unusedVariables false
set_option maxRecDepth 100000
attribute [local irreducible] appendK

def isT (l : List UInt8) : Bool := match l with | [] => false | a :: _ => decide (¬ (a.toNat : Int) = 0)
theorem isT_bool (is : Bool) : isT (boolE is).b = is := by cases is <;> decide
theorem trueR_is (x : Fo.El) : ∀ is, isT x.b = is → (x = boolE is → trueR x = (is, 0)) ∧ (¬ x = boolE is → trueR x = (false, 2)) := by
  intro is his
  have key : ∀ w, x = boolE w → w = is := fun w hw => by rw [← his, hw, isT_bool]
  unfold trueR
  constructor
  · rintro rfl
    cases is with
    | true => exact if_pos rfl
    | false => rw [if_neg (fun h => by have := key _ h; cases this), if_pos rfl]
  · intro hn
    rw [if_neg (fun h => hn (by rw [← key _ h]; exact h)), if_neg (fun h => hn (by rw [← key _ h]; exact h))]

section
variable {nx : Nat} {gt : Nat → Option Blk}

theorem ct_True {x : Fo.El} {B : Option Addr} {m d : Nat} {A : Option Addr} {n c : Nat} {ks : List Value} (h : NdR nx gt x B m d A n c ks) (hxw : x.f.ws < 900000) :
    Ct Tryd.prog 24 [nodeV x.t B m d A n c] nx gt fun v _ _ => v = .tuple #[.bool (trueR x).1, .int .i64 ((trueR x).2 : Nat)] := by
  refine Ct.of hmx r_scalar_True (by simp [c_scalar_True]) fun b hb => ?_
  have hF : ∀ q, q < nx → upd gt nx (some (.cells (nodeL x.t B m d A n c) false)) q = gt q := fun q hq => by simp only [upd_e]; rw [if_neg (by omega)]
  have hb0 : upd gt nx (some (.cells (nodeL x.t B m d A n c) false)) nx = some (.cells (nodeL x.t B m d A n c) false) := by simp only [upd_e, if_true]
  have xw : x.f.ws = 1 + x.b.length + x.k.ws := by simp only [Fo.El.f, Fo.ws]; omega
  have lw := Fo.len_ws x.k
  have hl := h.blen
  have hkl := h.len
  have hnn : (nx = nx + 1) = False := by simp
  cases hxb : x.b with
  | nil =>
    have hm0 : m = 0 := by rw [← hl, hxb]; rfl
    have hm : ¬ (0 : Int) < (m : Int) := by omega
    simp only [c_scalar_True, ↓gaW, ↓gaV, ↓gaC, ↓gaN, gaP, Nat.reduceEqDiff, Nat.reduceLeDiff, Nat.reduceAdd, Nat.reduceSub, Nat.reduceMul, Int.reduceLT, Int.reduceLE, Int.reduceEq, Int.reduceToNat, Int.reduceAdd, Int.reduceSub, Int.reduceMul, reduceCtorEq, ↓reduceIte, List.getD_cons_zero, List.getD_cons_succ, fillL, splice, List.take_zero, List.drop_zero, List.drop_succ_cons, List.take_succ_cons, List.drop_nil, List.take_nil, gaU, hm, decide_false, hnn]
    generalize upd gt nx (some (.cells (nodeL x.t B m d A n c) false)) = g0 at *
    repeat refine And.intro (by omega) ?_
    refine And.intro (all1 rfl) ?_
    repeat refine And.intro (by omega) ?_
    obtain ⟨g2, e2, G2, hb2⟩ := boxed (g := g0) (x := nx + 1) (cs := [Value.bool false]) (ds := [Value.bool false])
    rw [← e2]; clear e2
    have hb3 : g2 nx = some (.cells (nodeL x.t B m d A n c) false) := by rw [G2 nx (by omega), hb0]
    have hN2 := h.keep (x' := nx + 2) (g := g2) (by omega) fun p hp => by rw [G2 p (by omega), hF p hp]
    refine callK_of (ct_justT (r := .ok (boolE false)) hN2 (by omega) (fun y' hy' => by injection hy' with hy'; subst hy'; have := boolE_ws false; omega) (fun nx' g h1 h2 => ct_True1 (q := nx + 1) (by omega) (by rw [h2 (nx + 1) (by omega), hb2]))) (fun v x3 g3 l3 k3 hC => ?_) (by omega)
    obtain ⟨bb, hbb, rfl⟩ := hC
    have F3 : ∀ p, p < nx → g3 p = gt p := fun p hp => by rw [k3 p (by omega), G2 p (by omega), hF p hp]
    have hj : justP true x (.ok (boolE false)) ↔ x = boolE false := by
      unfold justP
      constructor
      · rintro ⟨_, z, h2, h3⟩
        injection h2 with h2; subst h2
        exact (alike_eq rfl).1 h3
      · intro h1
        exact ⟨rfl, _, rfl, (alike_eq rfl).2 h1⟩
    have he : trueR x = if bb = true then (false, 0) else (false, 2) := by
      have := trueR_is x
      have his : isT x.b = false := by rw [hxb]; rfl
      cases bb with
      | true => rw [if_pos rfl]; exact (this _ his).1 (hj.1 (hbb.1 rfl))
      | false => exact (this _ his).2 fun hc => by have := hbb.2 (hj.2 hc); cases this
    rw [he]
    cases bb with
    | true =>
      simp only [↓gaW, ↓gaV, ↓gaC, ↓gaN, gaP, Nat.reduceEqDiff, Nat.reduceLeDiff, Nat.reduceAdd, Nat.reduceSub, Nat.reduceMul, Int.reduceLT, Int.reduceLE, Int.reduceEq, Int.reduceToNat, Int.reduceAdd, Int.reduceSub, Int.reduceMul, reduceCtorEq, ↓reduceIte, gaE, implies_true, Nat.le_refl, Int.sub_zero, Nat.sub_zero, Int.le_refl, true_or, or_true, List.getD_cons_zero, List.getD_cons_succ, fillL, splice, List.take_zero, List.drop_zero, List.drop_succ_cons, List.take_succ_cons, List.drop_nil, List.take_nil, if_true]
      repeat refine And.intro (by omega) ?_
      first | exact F3 | exact ⟨F3, rfl⟩
    | false =>
      simp only [↓gaW, ↓gaV, ↓gaC, ↓gaN, gaP, Nat.reduceEqDiff, Nat.reduceLeDiff, Nat.reduceAdd, Nat.reduceSub, Nat.reduceMul, Int.reduceLT, Int.reduceLE, Int.reduceEq, Int.reduceToNat, Int.reduceAdd, Int.reduceSub, Int.reduceMul, reduceCtorEq, ↓reduceIte, gaE, implies_true, Nat.le_refl, Int.sub_zero, Nat.sub_zero, Int.le_refl, true_or, or_true, List.getD_cons_zero, List.getD_cons_succ, fillL, splice, List.take_zero, List.drop_zero, List.drop_succ_cons, List.take_succ_cons, List.drop_nil, List.take_nil, Bool.false_eq_true, if_false]
      repeat refine And.intro (by omega) ?_
      first | exact F3 | exact ⟨F3, rfl⟩
  | cons a t =>
    have hm : (0 : Int) < (m : Int) := by rw [hxb, List.length_cons] at hl; omega
    have hm' : 0 < m := by omega
    obtain ⟨a', cl, ro, e1, r2, r3, r4, r5⟩ := h.body.cells hm'
    subst e1
    have c0 : cl.getD a'.off undef = .int .u8 (a.toNat : Nat) := by
      have := r5 0 (by omega)
      rw [Nat.add_zero] at this
      rw [this, hxb]; rfl
    have hqn : (a'.block = nx) = False := by simp; omega
    simp only [c_scalar_True, ↓gaW, ↓gaV, ↓gaC, ↓gaN, gaP, Nat.reduceEqDiff, Nat.reduceLeDiff, Nat.reduceAdd, Nat.reduceSub, Nat.reduceMul, Int.reduceLT, Int.reduceLE, Int.reduceEq, Int.reduceToNat, Int.reduceAdd, Int.reduceSub, Int.reduceMul, reduceCtorEq, ↓reduceIte, List.getD_cons_zero, List.getD_cons_succ, fillL, splice, List.take_zero, List.drop_zero, List.drop_succ_cons, List.take_succ_cons, List.drop_nil, List.take_nil, gaU, hm, decide_true, hnn, hqn, r3, c0]
    obtain ⟨is, hisd⟩ : ∃ is : Bool, is = decide (¬ (a.toNat : Int) = 0) := ⟨_, rfl⟩
    rw [← hisd]
    generalize upd gt nx (some (.cells (nodeL x.t (some a') m d A n c) false)) = g0 at *
    repeat refine And.intro (by omega) ?_
    refine And.intro (all1 rfl) ?_
    repeat refine And.intro (by omega) ?_
    obtain ⟨g2, e2, G2, hb2⟩ := boxed (g := g0) (x := nx + 1) (cs := [Value.bool false]) (ds := [Value.bool is])
    rw [← e2]; clear e2
    have hb3 : g2 nx = some (.cells (nodeL x.t (some a') m d A n c) false) := by rw [G2 nx (by omega), hb0]
    have hN2 := h.keep (x' := nx + 2) (g := g2) (by omega) fun p hp => by rw [G2 p (by omega), hF p hp]
    refine callK_of (ct_justT (r := .ok (boolE is)) hN2 (by omega) (fun y' hy' => by injection hy' with hy'; subst hy'; have := boolE_ws is; omega) (fun nx' g h1 h2 => ct_True1 (q := nx + 1) (by omega) (by rw [h2 (nx + 1) (by omega), hb2]))) (fun v x3 g3 l3 k3 hC => ?_) (by omega)
    obtain ⟨bb, hbb, rfl⟩ := hC
    have F3 : ∀ p, p < nx → g3 p = gt p := fun p hp => by rw [k3 p (by omega), G2 p (by omega), hF p hp]
    have hj : justP true x (.ok (boolE is)) ↔ x = boolE is := by
      unfold justP
      constructor
      · rintro ⟨_, z, h2, h3⟩
        injection h2 with h2; subst h2
        exact (alike_eq rfl).1 h3
      · intro h1
        exact ⟨rfl, _, rfl, (alike_eq rfl).2 h1⟩
    have he : trueR x = if bb = true then (is, 0) else (false, 2) := by
      have := trueR_is x
      have his : isT x.b = is := by rw [hxb, hisd]; rfl
      cases bb with
      | true => rw [if_pos rfl]; exact (this _ his).1 (hj.1 (hbb.1 rfl))
      | false => exact (this _ his).2 fun hc => by have := hbb.2 (hj.2 hc); cases this
    rw [he]
    cases bb with
    | true =>
      simp only [↓gaW, ↓gaV, ↓gaC, ↓gaN, gaP, Nat.reduceEqDiff, Nat.reduceLeDiff, Nat.reduceAdd, Nat.reduceSub, Nat.reduceMul, Int.reduceLT, Int.reduceLE, Int.reduceEq, Int.reduceToNat, Int.reduceAdd, Int.reduceSub, Int.reduceMul, reduceCtorEq, ↓reduceIte, gaE, implies_true, Nat.le_refl, Int.sub_zero, Nat.sub_zero, Int.le_refl, true_or, or_true, List.getD_cons_zero, List.getD_cons_succ, fillL, splice, List.take_zero, List.drop_zero, List.drop_succ_cons, List.take_succ_cons, List.drop_nil, List.take_nil, if_true]
      repeat refine And.intro (by omega) ?_
      first | exact F3 | exact ⟨F3, rfl⟩
    | false =>
      simp only [↓gaW, ↓gaV, ↓gaC, ↓gaN, gaP, Nat.reduceEqDiff, Nat.reduceLeDiff, Nat.reduceAdd, Nat.reduceSub, Nat.reduceMul, Int.reduceLT, Int.reduceLE, Int.reduceEq, Int.reduceToNat, Int.reduceAdd, Int.reduceSub, Int.reduceMul, reduceCtorEq, ↓reduceIte, gaE, implies_true, Nat.le_refl, Int.sub_zero, Nat.sub_zero, Int.le_refl, true_or, or_true, List.getD_cons_zero, List.getD_cons_succ, fillL, splice, List.take_zero, List.drop_zero, List.drop_succ_cons, List.take_succ_cons, List.drop_nil, List.take_nil, Bool.false_eq_true, if_false]
      repeat refine And.intro (by omega) ?_
      first | exact F3 | exact ⟨F3, rfl⟩

end
end Go.Ga

/- The document's truth; the bits of an element. -/
namespace Go.Ga
open Go Go.Proofs
set_option linter.unusedSimpArgs false
set_option linter.unusedVariables false
set_option maxRecDepth 100000
attribute [local irreducible] appendK

def OErr (nx : Nat) (g : Nat → Option Blk) (v : Value) (r : List UInt8 × Int × Nat) : Prop := ∃ u, v = .tuple #[u, .int .i64 r.2.1, .int .i64 (r.2.2 : Nat)] ∧ BySl nx g u r.1

section
variable {nx : Nat} {gt : Nat → Option Blk}


theorem ct_rTrue {x : Fo.El} {B : Option Addr} {m d : Nat} {A : Option Addr} {n c : Nat} {ks : List Value} (h : NdR nx gt x B m d A n c ks) (hxw : x.f.ws < 900000) :
    Ct Tryd.prog 25 [nodeV x.t B m d A n c] nx gt fun v _ _ => v = .tuple #[.bool (trueR x).1, .int .i64 ((trueR x).2 : Nat)] := by
  refine Ct.of hmx r_lanyardref05_True (by simp [c_lanyardref05_True]) fun b hb => ?_
  have hF : ∀ q, q < nx → upd gt nx (some (.cells (nodeL x.t B m d A n c) false)) q = gt q := fun q hq => by simp only [upd_e]; rw [if_neg (by omega)]
  have hb0 : upd gt nx (some (.cells (nodeL x.t B m d A n c) false)) nx = some (.cells (nodeL x.t B m d A n c) false) := by simp only [upd_e, if_true]
  have xw : x.f.ws = 1 + x.b.length + x.k.ws := by simp only [Fo.El.f, Fo.ws]; omega
  have lw := Fo.len_ws x.k
  have hl := h.blen
  have hkl := h.len
  simp only [c_lanyardref05_True, ↓gaW, ↓gaV, ↓gaC, ↓gaN, gaP, Nat.reduceEqDiff, Nat.reduceLeDiff, Nat.reduceAdd, Nat.reduceSub, Nat.reduceMul, Int.reduceLT, Int.reduceLE, Int.reduceEq, Int.reduceToNat, Int.reduceAdd, Int.reduceSub, Int.reduceMul, reduceCtorEq, ↓reduceIte, List.getD_cons_zero, List.getD_cons_succ, fillL, splice, List.take_zero, List.drop_zero, List.drop_succ_cons, List.take_succ_cons, List.drop_nil, List.take_nil, gaU]
  generalize upd gt nx (some (.cells (nodeL x.t B m d A n c) false)) = g0 at *
  repeat refine And.intro (by omega) ?_
  refine callQ_of (ct_rBool true) fun v x1 g1 l1 k1 hC => ?_
  obtain ⟨B', m', d', A', n', c', ks', rfl, hN⟩ := hC
  have F1 : ∀ p, p < nx → g1 p = gt p := fun p hp => by rw [k1 p (by omega), hF p hp]
  have hb1 : g1 nx = some (.cells (nodeL x.t B m d A n c) false) := by rw [k1 nx (by omega), hb0]
  simp only [↓gaW, ↓gaV, ↓gaC, ↓gaN, gaP, Nat.reduceEqDiff, Nat.reduceLeDiff, Nat.reduceAdd, Nat.reduceSub, Nat.reduceMul, Int.reduceLT, Int.reduceLE, Int.reduceEq, Int.reduceToNat, Int.reduceAdd, Int.reduceSub, Int.reduceMul, reduceCtorEq, ↓reduceIte, List.getD_cons_zero, List.getD_cons_succ, fillL, splice, List.take_zero, List.drop_zero, List.drop_succ_cons, List.take_succ_cons, List.drop_nil, List.take_nil]
  refine callK_of (ct_Same x (by omega) (boolE true) _ _ _ _ _ _ _ _ _ _ _ _ _ _ _ _ (h.keep (x' := x1) (by omega) F1) hN.r) (fun v x3 g3 l3 k3 hC => ?_) (by omega)
  obtain ⟨s, rfl, hs⟩ := hC
  have F3 : ∀ p, p < nx → g3 p = gt p := fun p hp => by rw [k3 p (by omega), F1 p hp]
  have hb3 : g3 nx = some (.cells (nodeL x.t B m d A n c) false) := by rw [k3 nx (by omega), hb1]
  cases s with
  | true =>
    have er : trueR x = (true, 0) := if_pos (hs.1 rfl)
    simp only [↓gaW, ↓gaV, ↓gaC, ↓gaN, gaP, Nat.reduceEqDiff, Nat.reduceLeDiff, Nat.reduceAdd, Nat.reduceSub, Nat.reduceMul, Int.reduceLT, Int.reduceLE, Int.reduceEq, Int.reduceToNat, Int.reduceAdd, Int.reduceSub, Int.reduceMul, reduceCtorEq, ↓reduceIte, gaE, implies_true, Nat.le_refl, Int.sub_zero, Nat.sub_zero, Int.le_refl, true_or, or_true, List.getD_cons_zero, List.getD_cons_succ, fillL, splice, List.take_zero, List.drop_zero, List.drop_succ_cons, List.take_succ_cons, List.drop_nil, List.take_nil, er]
    exact ⟨by omega, F3⟩
  | false =>
    have hn1 : ¬ x = boolE true := fun h => by have := hs.2 h; cases this
    simp only [↓gaW, ↓gaV, ↓gaC, ↓gaN, gaP, Nat.reduceEqDiff, Nat.reduceLeDiff, Nat.reduceAdd, Nat.reduceSub, Nat.reduceMul, Int.reduceLT, Int.reduceLE, Int.reduceEq, Int.reduceToNat, Int.reduceAdd, Int.reduceSub, Int.reduceMul, reduceCtorEq, ↓reduceIte, gaE, implies_true, Nat.le_refl, Int.sub_zero, Nat.sub_zero, Int.le_refl, true_or, or_true, List.getD_cons_zero, List.getD_cons_succ, fillL, splice, List.take_zero, List.drop_zero, List.drop_succ_cons, List.take_succ_cons, List.drop_nil, List.take_nil, hb3]
    repeat refine And.intro (by omega) ?_
    refine callQ_of (ct_rBool false) fun v x4 g4 l4 k4 hC => ?_
    obtain ⟨B'', m'', d'', A'', n'', c'', ks'', rfl, hN4⟩ := hC
    have F4 : ∀ p, p < nx → g4 p = gt p := fun p hp => by rw [k4 p (by omega), F3 p hp]
    simp only [↓gaW, ↓gaV, ↓gaC, ↓gaN, gaP, Nat.reduceEqDiff, Nat.reduceLeDiff, Nat.reduceAdd, Nat.reduceSub, Nat.reduceMul, Int.reduceLT, Int.reduceLE, Int.reduceEq, Int.reduceToNat, Int.reduceAdd, Int.reduceSub, Int.reduceMul, reduceCtorEq, ↓reduceIte, List.getD_cons_zero, List.getD_cons_succ, fillL, splice, List.take_zero, List.drop_zero, List.drop_succ_cons, List.take_succ_cons, List.drop_nil, List.take_nil]
    refine callK_of (ct_Same x (by omega) (boolE false) _ _ _ _ _ _ _ _ _ _ _ _ _ _ _ _ (h.keep (x' := x4) (by omega) F4) hN4.r) (fun v x5 g5 l5 k5 hC => ?_) (by omega)
    obtain ⟨s5, rfl, hs5⟩ := hC
    have F5 : ∀ p, p < nx → g5 p = gt p := fun p hp => by rw [k5 p (by omega), F4 p hp]
    cases s5 with
    | true =>
      have er : trueR x = (false, 0) := by unfold trueR; rw [if_neg hn1, if_pos (hs5.1 rfl)]
      simp only [↓gaW, ↓gaV, ↓gaC, ↓gaN, gaP, Nat.reduceEqDiff, Nat.reduceLeDiff, Nat.reduceAdd, Nat.reduceSub, Nat.reduceMul, Int.reduceLT, Int.reduceLE, Int.reduceEq, Int.reduceToNat, Int.reduceAdd, Int.reduceSub, Int.reduceMul, reduceCtorEq, ↓reduceIte, gaE, implies_true, Nat.le_refl, Int.sub_zero, Nat.sub_zero, Int.le_refl, true_or, or_true, List.getD_cons_zero, List.getD_cons_succ, fillL, splice, List.take_zero, List.drop_zero, List.drop_succ_cons, List.take_succ_cons, List.drop_nil, List.take_nil, er]
      exact ⟨by omega, F5⟩
    | false =>
      have er : trueR x = (false, 2) := by unfold trueR; rw [if_neg hn1, if_neg fun h => by have := hs5.2 h; cases this]
      simp only [↓gaW, ↓gaV, ↓gaC, ↓gaN, gaP, Nat.reduceEqDiff, Nat.reduceLeDiff, Nat.reduceAdd, Nat.reduceSub, Nat.reduceMul, Int.reduceLT, Int.reduceLE, Int.reduceEq, Int.reduceToNat, Int.reduceAdd, Int.reduceSub, Int.reduceMul, reduceCtorEq, ↓reduceIte, gaE, implies_true, Nat.le_refl, Int.sub_zero, Nat.sub_zero, Int.le_refl, true_or, or_true, List.getD_cons_zero, List.getD_cons_succ, fillL, splice, List.take_zero, List.drop_zero, List.drop_succ_cons, List.take_succ_cons, List.drop_nil, List.take_nil, er]
      exact ⟨by omega, F5⟩

theorem ct_Of1 {q q2 : Nat} {ro ro2 : Bool} {A0 : Option Addr} {n0 c0 : Nat} {l : List UInt8} {many : Int} (hq : q < nx) (hg : gt q = some (.cells [.slice A0 n0 c0] ro)) (hq2 : q2 < nx) (hg2 : gt q2 = some (.cells [.int .i64 many] ro2)) (hA : Row nx gt 1 A0 n0 (l.map u8V)) (hc : n0 ≤ c0) (hn : n0 ≤ 1000000) (hm : -9223372036854775808 ≤ many ∧ many ≤ 9223372036854775807) :
    Ct Tryd.prog 53 [.pointer (some ⟨q, 0, none⟩), .pointer (some ⟨q2, 0, none⟩)] nx gt fun v x g => NErr nx x g v (bitsR l many) := by
  refine Ct.of hmx r_scalar_Of_1 (by simp [c_scalar_Of_1]) fun b hb => ?_
  have hF : ∀ q, q < nx → upd gt nx (some (.cells [Value.int .i64 0, .slice none 0 0, .slice none 0 0] false)) q = gt q := fun q hq => by simp only [upd_e]; rw [if_neg (by omega)]
  have hb0 : upd gt nx (some (.cells [Value.int .i64 0, .slice none 0 0, .slice none 0 0] false)) nx = some (.cells [Value.int .i64 0, .slice none 0 0, .slice none 0 0] false) := by simp only [upd_e, if_true]
  have hqn : (q = nx) = False := by simp; omega
  have hqn2 : (q2 = nx) = False := by simp; omega
  simp only [c_scalar_Of_1, ↓gaW, ↓gaV, ↓gaC, ↓gaN, gaP, Nat.reduceEqDiff, Nat.reduceLeDiff, Nat.reduceAdd, Nat.reduceSub, Nat.reduceMul, Int.reduceLT, Int.reduceLE, Int.reduceEq, Int.reduceToNat, Int.reduceAdd, Int.reduceSub, Int.reduceMul, reduceCtorEq, ↓reduceIte, List.getD_cons_zero, List.getD_cons_succ, fillL, splice, List.take_zero, List.drop_zero, List.drop_succ_cons, List.take_succ_cons, List.drop_nil, List.take_nil, gaU, hqn, hqn2, hg, hg2, List.getD_cons_zero]
  generalize upd gt nx (some (.cells [Value.int .i64 0, .slice none 0 0, .slice none 0 0] false)) = g0 at *
  repeat refine And.intro (by omega) ?_
  refine callK_of (ct_Bits (hA.keep (nx' := nx + 1) (by omega) hF) hc hn hm) (fun v x1 g1 l1 k1 hC => ?_) (by omega)
  have F1 : ∀ p, p < nx → g1 p = gt p := fun p hp => by rw [k1 p (by omega), hF p hp]
  have hb1 : g1 nx = some (.cells [Value.int .i64 0, .slice none 0 0, .slice none 0 0] false) := by rw [k1 nx (by omega), hb0]
  have ext : ∀ (cs : List Value), (∀ p, p ≠ nx → upd g1 nx (some (.cells cs false)) p = g1 p) := fun cs p hp => by simp only [upd_e]; rw [if_neg hp]
  cases hr : bitsR l many with
  | error e =>
    rw [hr] at hC
    obtain ⟨rfl, he⟩ := hC
    simp only [↓gaW, ↓gaV, ↓gaC, ↓gaN, gaP, Nat.reduceEqDiff, Nat.reduceLeDiff, Nat.reduceAdd, Nat.reduceSub, Nat.reduceMul, Int.reduceLT, Int.reduceLE, Int.reduceEq, Int.reduceToNat, Int.reduceAdd, Int.reduceSub, Int.reduceMul, reduceCtorEq, ↓reduceIte, List.getD_cons_zero, List.getD_cons_succ, fillL, splice, List.take_zero, List.drop_zero, List.drop_succ_cons, List.take_succ_cons, List.drop_nil, List.take_nil, hb1]
    refine And.intro (by omega) (And.intro (by omega) ?_)
    repeat refine And.intro (by omega) ?_
    refine And.intro (node_cells _ _ _ _ _ _ _) ?_
    exact end_nT (q := nx) (t := 0) (B := none) (m := 0) (d := 0) (A := none) (n := 0) (c := 0) (ro := false) (w := .int .i64 e) (by first | (simp only [↓gaW, ↓gaV, ↓gaC, ↓gaN, gaP, Nat.reduceEqDiff, Nat.reduceLeDiff, Nat.reduceAdd, Nat.reduceSub, Nat.reduceMul, Int.reduceLT, Int.reduceLE, Int.reduceEq, Int.reduceToNat, Int.reduceAdd, Int.reduceSub, Int.reduceMul, reduceCtorEq, ↓reduceIte]; done) | (simp only [↓gaW, ↓gaV, ↓gaC, ↓gaN, gaP, Nat.reduceEqDiff, Nat.reduceLeDiff, Nat.reduceAdd, Nat.reduceSub, Nat.reduceMul, Int.reduceLT, Int.reduceLE, Int.reduceEq, Int.reduceToNat, Int.reduceAdd, Int.reduceSub, Int.reduceMul, reduceCtorEq, ↓reduceIte]; rfl)) (by first | (simp only [↓gaW, ↓gaV, ↓gaC, ↓gaN, gaP, Nat.reduceEqDiff, Nat.reduceLeDiff, Nat.reduceAdd, Nat.reduceSub, Nat.reduceMul, Int.reduceLT, Int.reduceLE, Int.reduceEq, Int.reduceToNat, Int.reduceAdd, Int.reduceSub, Int.reduceMul, reduceCtorEq, ↓reduceIte]; done) | (simp only [↓gaW, ↓gaV, ↓gaC, ↓gaN, gaP, Nat.reduceEqDiff, Nat.reduceLeDiff, Nat.reduceAdd, Nat.reduceSub, Nat.reduceMul, Int.reduceLT, Int.reduceLE, Int.reduceEq, Int.reduceToNat, Int.reduceAdd, Int.reduceSub, Int.reduceMul, reduceCtorEq, ↓reduceIte]; rfl)) (by simp only [upd_e, if_true]) (by omega) (fun p hp => by rw [ext _ p (by omega), F1 p hp]) ⟨rfl, he⟩
  | ok y =>
    rw [hr] at hC
    obtain ⟨u, rfl, B, m, d, A, n, c, ks, rfl, hN⟩ := hC
    simp only [↓gaW, ↓gaV, ↓gaC, ↓gaN, gaP, Nat.reduceEqDiff, Nat.reduceLeDiff, Nat.reduceAdd, Nat.reduceSub, Nat.reduceMul, Int.reduceLT, Int.reduceLE, Int.reduceEq, Int.reduceToNat, Int.reduceAdd, Int.reduceSub, Int.reduceMul, reduceCtorEq, ↓reduceIte, List.getD_cons_zero, List.getD_cons_succ, fillL, splice, List.take_zero, List.drop_zero, List.drop_succ_cons, List.take_succ_cons, List.drop_nil, List.take_nil, hb1]
    repeat refine And.intro (by omega) ?_
    refine And.intro (node_cells _ _ _ _ _ _ _) ?_
    exact end_nT (q := nx) (t := y.t) (B := B) (m := m) (d := d) (A := A) (n := n) (c := c) (ro := false) (w := .int .i64 0) (by first | (simp only [↓gaW, ↓gaV, ↓gaC, ↓gaN, gaP, Nat.reduceEqDiff, Nat.reduceLeDiff, Nat.reduceAdd, Nat.reduceSub, Nat.reduceMul, Int.reduceLT, Int.reduceLE, Int.reduceEq, Int.reduceToNat, Int.reduceAdd, Int.reduceSub, Int.reduceMul, reduceCtorEq, ↓reduceIte]; done) | (simp only [↓gaW, ↓gaV, ↓gaC, ↓gaN, gaP, Nat.reduceEqDiff, Nat.reduceLeDiff, Nat.reduceAdd, Nat.reduceSub, Nat.reduceMul, Int.reduceLT, Int.reduceLE, Int.reduceEq, Int.reduceToNat, Int.reduceAdd, Int.reduceSub, Int.reduceMul, reduceCtorEq, ↓reduceIte]; rfl)) (by first | (simp only [↓gaW, ↓gaV, ↓gaC, ↓gaN, gaP, Nat.reduceEqDiff, Nat.reduceLeDiff, Nat.reduceAdd, Nat.reduceSub, Nat.reduceMul, Int.reduceLT, Int.reduceLE, Int.reduceEq, Int.reduceToNat, Int.reduceAdd, Int.reduceSub, Int.reduceMul, reduceCtorEq, ↓reduceIte]; done) | (simp only [↓gaW, ↓gaV, ↓gaC, ↓gaN, gaP, Nat.reduceEqDiff, Nat.reduceLeDiff, Nat.reduceAdd, Nat.reduceSub, Nat.reduceMul, Int.reduceLT, Int.reduceLE, Int.reduceEq, Int.reduceToNat, Int.reduceAdd, Int.reduceSub, Int.reduceMul, reduceCtorEq, ↓reduceIte]; rfl)) (by simp only [upd_e, if_true]) (by omega) (fun p hp => by rw [ext _ p (by omega), F1 p hp]) ⟨_, rfl, B, m, d, A, n, c, ks, rfl, (hN.keep (Nat.le_refl _) fun p hp _ => ext _ p (by omega)).wid (by omega)⟩
theorem ct_Of {x : Fo.El} {B : Option Addr} {m d : Nat} {A : Option Addr} {n c : Nat} {ks : List Value} (h : NdR nx gt x B m d A n c ks) (hxw : x.f.ws < 900000) :
    Ct Tryd.prog 22 [nodeV x.t B m d A n c] nx gt fun v x' g => OErr x' g v (ofR x) := by
  refine Ct.of hmx r_scalar_Of (by simp [c_scalar_Of]) fun b hb => ?_
  have hF : ∀ q, q < nx → upd gt nx (some (.cells (nodeL x.t B m d A n c) false)) q = gt q := fun q hq => by simp only [upd_e]; rw [if_neg (by omega)]
  have hb0 : upd gt nx (some (.cells (nodeL x.t B m d A n c) false)) nx = some (.cells (nodeL x.t B m d A n c) false) := by simp only [upd_e, if_true]
  have xw : x.f.ws = 1 + x.b.length + x.k.ws := by simp only [Fo.El.f, Fo.ws]; omega
  have lw := Fo.len_ws x.k
  have hl := h.blen
  have hkl := h.len
  cases hxb : x.b with
  | nil =>
    have hm0 : m = 0 := by rw [← hl, hxb]; rfl
    have hm : (m : Int) = 0 := by omega
    have er : ofR x = ([], 0, 2) := if_neg fun hc => hc.1 hxb
    simp only [c_scalar_Of, ↓gaW, ↓gaV, ↓gaC, ↓gaN, gaP, Nat.reduceEqDiff, Nat.reduceLeDiff, Nat.reduceAdd, Nat.reduceSub, Nat.reduceMul, Int.reduceLT, Int.reduceLE, Int.reduceEq, Int.reduceToNat, Int.reduceAdd, Int.reduceSub, Int.reduceMul, reduceCtorEq, ↓reduceIte, gaE, implies_true, Nat.le_refl, Int.sub_zero, Nat.sub_zero, Int.le_refl, true_or, or_true, List.getD_cons_zero, List.getD_cons_succ, fillL, splice, List.take_zero, List.drop_zero, List.drop_succ_cons, List.take_succ_cons, List.drop_nil, List.take_nil, gaU, hm, decide_true, er]
    repeat refine And.intro (by omega) ?_
    exact ⟨hF, _, rfl, .nil⟩
  | cons a t =>
    have hm : ¬ (m : Int) = 0 := by rw [hxb, List.length_cons] at hl; omega
    have hm' : 0 < m := by omega
    obtain ⟨a', cl, ro, e1, r2, r3, r4, r5⟩ := h.body.cells hm'
    subst e1
    have c0 : cl.getD a'.off undef = .int .u8 (a.toNat : Nat) := by
      have := r5 0 (by omega)
      rw [Nat.add_zero] at this
      rw [this, hxb]; rfl
    have hqn : (a'.block = nx) = False := by simp; omega
    have im1 : ((m : Int) - 1).toNat = m - 1 := by omega
    have hmd := h.md
    have id1 : ((d : Int) - 1).toNat = d - 1 := by omega
    have hspot := h.body.spot a' rfl
    have htl : t.length = m - 1 := by rw [hxb, List.length_cons] at hl; omega
    have ht := h.body.part (lo := 1) (hi := m) (by omega) (Nat.le_refl _) rfl
    have et : ((x.b.map u8V).drop 1).take (m - 1) = t.map u8V := by rw [hxb, ← htl]; simp [List.take_of_length_le]
    rw [et] at ht
    simp only [c_scalar_Of, ↓gaW, ↓gaV, ↓gaC, ↓gaN, gaP, Nat.reduceEqDiff, Nat.reduceLeDiff, Nat.reduceAdd, Nat.reduceSub, Nat.reduceMul, Int.reduceLT, Int.reduceLE, Int.reduceEq, Int.reduceToNat, Int.reduceAdd, Int.reduceSub, Int.reduceMul, reduceCtorEq, ↓reduceIte, List.getD_cons_zero, List.getD_cons_succ, fillL, splice, List.take_zero, List.drop_zero, List.drop_succ_cons, List.take_succ_cons, List.drop_nil, List.take_nil, gaU, hm, decide_false, im1, id1]
    generalize upd gt nx (some (.cells (nodeL x.t (some a') m d A n c) false)) = g0 at *
    repeat refine And.intro (by omega) ?_
    refine And.intro (by rcases hspot with h | h <;> simp [h]) ?_
    have h0 := h.keep (x' := nx + 1) (by omega) hF
    refine callK_of (ct_Clone (ht.keep (nx' := nx + 1) (by omega) hF) (by omega) (by omega)) (fun v x1 g1 l1 k1 hC => ?_) (by omega)
    obtain ⟨A2, n2, c2, rfl, hc2, hl2, rr2⟩ := hC
    have r2' := rr2.1
    have F1 : ∀ p, p < nx → g1 p = gt p := fun p hp => by rw [k1 p (by omega), hF p hp]
    have hb1 : g1 nx = some (.cells (nodeL x.t (some a') m d A n c) false) := by rw [k1 nx (by omega), hb0]
    have hx1 : (nx = x1) = False := by simp; omega
    have hx2 : (nx = x1 + 1) = False := by simp; omega
    have hx3 : (x1 = x1 + 1) = False := by simp
    have ha1 : (a'.block = x1) = False := by simp; omega
    have ha2 : (a'.block = x1 + 1) = False := by simp; omega
    have hga : g1 a'.block = some (.cells cl ro) := by rw [F1 _ r2, r3]
    have ha256 := a.toNat_lt
    obtain ⟨many, hmany⟩ : ∃ many : Int, many = 8 * (t.length : Int) - (a.toNat : Int) := ⟨_, rfl⟩
    have i1 : IntKind.i64.wrap (IntKind.i64.wrap (8 * (n2 : Int)) - IntKind.i64.wrap ((a.toNat : Nat) : Int)) = many := by rw [i64_w (8 * (n2 : Int)) (by omega), i64_w ((a.toNat : Nat) : Int) (by omega), i64_w _ (by omega)]; omega
    simp only [↓gaW, ↓gaV, ↓gaC, ↓gaN, gaP, Nat.reduceEqDiff, Nat.reduceLeDiff, Nat.reduceAdd, Nat.reduceSub, Nat.reduceMul, Int.reduceLT, Int.reduceLE, Int.reduceEq, Int.reduceToNat, Int.reduceAdd, Int.reduceSub, Int.reduceMul, reduceCtorEq, ↓reduceIte, List.getD_cons_zero, List.getD_cons_succ, fillL, splice, List.take_zero, List.drop_zero, List.drop_succ_cons, List.take_succ_cons, List.drop_nil, List.take_nil, gaU, hx1, hx2, hx3, hb1, hga, c0, ha1, ha2, nodeL, List.getD_cons_succ, List.getD_cons_zero, i1]
    repeat refine And.intro (by omega) ?_
    refine And.intro (all1 rfl) ?_
    repeat refine And.intro (by omega) ?_
    refine And.intro (all1 rfl) ?_
    repeat refine And.intro (by omega) ?_
    obtain ⟨g2, e2⟩ : ∃ g', g' = upd (upd (upd (upd g1 x1 (some (.cells [Value.slice none 0 0] false))) x1 (some (.cells [Value.slice A2 n2 c2] false))) (x1 + 1) (some (.cells [Value.int .i64 0] false))) (x1 + 1) (some (.cells [Value.int .i64 many] false)) := ⟨_, rfl⟩
    have G2 : ∀ p, p < x1 → g2 p = g1 p := fun p hp => by rw [e2]; simp only [upd_e]; rw [if_neg (by omega), if_neg (by omega), if_neg (by omega), if_neg (by omega)]
    have hbA : g2 x1 = some (.cells [Value.slice A2 n2 c2] false) := by rw [e2, upd_e, if_neg (by omega), upd_e, if_neg (by omega), upd_e, if_pos rfl]
    have hbB : g2 (x1 + 1) = some (.cells [Value.int .i64 many] false) := by rw [e2]; simp only [upd_e, if_true]
    rw [← e2]; clear e2
    have hN2 := h.keep (x' := x1 + 1 + 1) (g := g2) (by omega) fun p hp => by rw [G2 p (by omega), F1 p hp]
    have rA2 := r2'.keep (nx' := x1 + 1 + 1) (gt' := g2) (by omega) G2
    refine callK_of (ct_justB (r := bitsR t many) hN2 (by omega) (fun y' hy' => by have := bitsR_ws hy'; omega) (fun nx' g h1 h2 => ct_Of1 (q := x1) (q2 := x1 + 1) (by omega) (by rw [h2 x1 (by omega), hbA]) (by omega) (by rw [h2 (x1 + 1) (by omega), hbB]) (rA2.keep h1 h2) hc2 (by omega) (by omega))) (fun v x4 g4 l4 k4 hC => ?_) (by omega)
    obtain ⟨bb, hbb, rfl⟩ := hC
    have F4 : ∀ p, p < nx → g4 p = gt p := fun p hp => by rw [k4 p (by omega), G2 p (by omega), F1 p hp]
    have hj : justP true x (bitsR t many) ↔ bitsR t many = .ok x := by
      unfold justP
      constructor
      · rintro ⟨_, z, h2, h3⟩
        rw [h2, (alike_eq (bitsR_k h2)).1 h3]
      · intro h2
        exact ⟨rfl, x, h2, (alike_eq (bitsR_k h2)).2 rfl⟩
    have hb4 : g4 x1 = some (.cells [Value.slice A2 n2 c2] false) := by rw [k4 x1 (by omega), hbA]
    have hb5 : g4 (x1 + 1) = some (.cells [Value.int .i64 many] false) := by rw [k4 (x1 + 1) (by omega), hbB]
    have hx4 : (x1 + 1 = x1) = False := by simp
    have eo : x.b ≠ [] ∧ bitsR x.b.tail (8 * (x.b.tail.length : Int) - (x.b.headD 0).toNat) = .ok x ↔ bitsR t many = .ok x := by
      rw [hxb, hmany]
      exact ⟨fun h => h.2, fun h => ⟨by simp, h⟩⟩
    cases bb with
    | true =>
      have er : ofR x = (t, many, 0) := by
        unfold ofR
        rw [if_pos (eo.2 (hj.1 (hbb.1 rfl))), hxb, hmany]; rfl
      simp only [↓gaW, ↓gaV, ↓gaC, ↓gaN, gaP, Nat.reduceEqDiff, Nat.reduceLeDiff, Nat.reduceAdd, Nat.reduceSub, Nat.reduceMul, Int.reduceLT, Int.reduceLE, Int.reduceEq, Int.reduceToNat, Int.reduceAdd, Int.reduceSub, Int.reduceMul, reduceCtorEq, ↓reduceIte, gaE, implies_true, Nat.le_refl, Int.sub_zero, Nat.sub_zero, Int.le_refl, true_or, or_true, List.getD_cons_zero, List.getD_cons_succ, fillL, splice, List.take_zero, List.drop_zero, List.drop_succ_cons, List.take_succ_cons, List.drop_nil, List.take_nil, er, if_true, hb4, hb5, hx4]
      repeat refine And.intro (by omega) ?_
      refine And.intro (all1 rfl) ?_
      repeat refine And.intro (by omega) ?_
      have ext : ∀ (cs : List Value), (∀ p, p < x1 → upd g4 x1 (some (.cells cs false)) p = g4 p) := fun cs p hp => by simp only [upd_e]; rw [if_neg (by omega)]
      refine ⟨fun p hp => by rw [if_neg (by omega), F4 p hp], _, rfl, A2, n2, c2, rfl, hc2, hl2, ?_⟩
      have rA4 := (r2'.keep (Nat.le_refl _) (gt' := g4) fun p hp => by rw [k4 p (by omega), G2 p hp])
      exact rA4.keep (by omega) (ext _)
    | false =>
      have er : ofR x = ([], 0, 2) := if_neg fun hc => by have := hbb.2 (hj.2 (eo.1 hc)); cases this
      simp only [↓gaW, ↓gaV, ↓gaC, ↓gaN, gaP, Nat.reduceEqDiff, Nat.reduceLeDiff, Nat.reduceAdd, Nat.reduceSub, Nat.reduceMul, Int.reduceLT, Int.reduceLE, Int.reduceEq, Int.reduceToNat, Int.reduceAdd, Int.reduceSub, Int.reduceMul, reduceCtorEq, ↓reduceIte, gaE, implies_true, Nat.le_refl, Int.sub_zero, Nat.sub_zero, Int.le_refl, true_or, or_true, List.getD_cons_zero, List.getD_cons_succ, fillL, splice, List.take_zero, List.drop_zero, List.drop_succ_cons, List.take_succ_cons, List.drop_nil, List.take_nil, er, Bool.false_eq_true, if_false, hb4, hb5, hx4]
      repeat refine And.intro (by omega) ?_
      refine And.intro (all1 rfl) ?_
      repeat refine And.intro (by omega) ?_
      exact ⟨fun p hp => by rw [if_neg (by omega), F4 p hp], _, rfl, .nil⟩
end
end Go.Ga

/- The document's bits; the law ScalarBits. -/
namespace Go.Ga
open Go Go.Proofs
set_option linter.unusedSimpArgs false
set_option linter.unusedVariables false
set_option maxRecDepth 100000
attribute [local irreducible] appendK

section
variable {nx : Nat} {gt : Nat → Option Blk}

theorem ct_rOf {x : Fo.El} {B : Option Addr} {m d : Nat} {A : Option Addr} {n c : Nat} {ks : List Value} (h : NdR nx gt x B m d A n c ks) (hxw : x.f.ws < 900000) :
    Ct Tryd.prog 23 [nodeV x.t B m d A n c] nx gt fun v x' g => OErr x' g v (ofR x) := by
  refine Ct.of hmx r_lanyardref05_Of (by simp [c_lanyardref05_Of]) fun b hb => ?_
  have hF : ∀ q, q < nx → upd gt nx (some (.cells (nodeL x.t B m d A n c) false)) q = gt q := fun q hq => by simp only [upd_e]; rw [if_neg (by omega)]
  have hb0 : upd gt nx (some (.cells (nodeL x.t B m d A n c) false)) nx = some (.cells (nodeL x.t B m d A n c) false) := by simp only [upd_e, if_true]
  have xw : x.f.ws = 1 + x.b.length + x.k.ws := by simp only [Fo.El.f, Fo.ws]; omega
  have lw := Fo.len_ws x.k
  have hl := h.blen
  have hkl := h.len
  cases hxb : x.b with
  | nil =>
    have hm0 : m = 0 := by rw [← hl, hxb]; rfl
    have hm : (m : Int) = 0 := by omega
    have er : ofR x = ([], 0, 2) := if_neg fun hc => hc.1 hxb
    simp only [c_lanyardref05_Of, ↓gaW, ↓gaV, ↓gaC, ↓gaN, gaP, Nat.reduceEqDiff, Nat.reduceLeDiff, Nat.reduceAdd, Nat.reduceSub, Nat.reduceMul, Int.reduceLT, Int.reduceLE, Int.reduceEq, Int.reduceToNat, Int.reduceAdd, Int.reduceSub, Int.reduceMul, reduceCtorEq, ↓reduceIte, gaE, implies_true, Nat.le_refl, Int.sub_zero, Nat.sub_zero, Int.le_refl, true_or, or_true, List.getD_cons_zero, List.getD_cons_succ, fillL, splice, List.take_zero, List.drop_zero, List.drop_succ_cons, List.take_succ_cons, List.drop_nil, List.take_nil, gaU, hm, decide_true, er]
    repeat refine And.intro (by omega) ?_
    exact ⟨hF, _, rfl, .nil⟩
  | cons a t =>
    have hm : ¬ (m : Int) = 0 := by rw [hxb, List.length_cons] at hl; omega
    have hm' : 0 < m := by omega
    obtain ⟨a', cl, ro, e1, r2, r3, r4, r5⟩ := h.body.cells hm'
    subst e1
    have c0 : cl.getD a'.off undef = .int .u8 (a.toNat : Nat) := by
      have := r5 0 (by omega)
      rw [Nat.add_zero] at this
      rw [this, hxb]; rfl
    have hqn : (a'.block = nx) = False := by simp; omega
    have eo : x.b ≠ [] ∧ bitsR x.b.tail (8 * (x.b.tail.length : Int) - (x.b.headD 0).toNat) = .ok x ↔ bitsR t (8 * (t.length : Int) - (a.toNat : Int)) = .ok x := by
      rw [hxb]
      exact ⟨fun h => h.2, fun h => ⟨by simp, h⟩⟩
    have htl : t.length = m - 1 := by rw [hxb, List.length_cons] at hl; omega
    by_cases h7 : (7 : Int) < (a.toNat : Int)
    · have er : ofR x = ([], 0, 2) := if_neg fun hc => by
        have := eo.1 hc
        rw [bits_err (by unfold bitsOk; simp; omega)] at this
        cases this
      simp only [c_lanyardref05_Of, ↓gaW, ↓gaV, ↓gaC, ↓gaN, gaP, Nat.reduceEqDiff, Nat.reduceLeDiff, Nat.reduceAdd, Nat.reduceSub, Nat.reduceMul, Int.reduceLT, Int.reduceLE, Int.reduceEq, Int.reduceToNat, Int.reduceAdd, Int.reduceSub, Int.reduceMul, reduceCtorEq, ↓reduceIte, gaE, implies_true, Nat.le_refl, Int.sub_zero, Nat.sub_zero, Int.le_refl, true_or, or_true, List.getD_cons_zero, List.getD_cons_succ, fillL, splice, List.take_zero, List.drop_zero, List.drop_succ_cons, List.take_succ_cons, List.drop_nil, List.take_nil, gaU, hm, decide_false, hqn, r3, c0, h7, decide_true, er]
      repeat refine And.intro (by omega) ?_
      exact ⟨hF, _, rfl, .nil⟩
    have im1 : ((m : Int) - 1).toNat = m - 1 := by omega
    have hmd := h.md
    have id1 : ((d : Int) - 1).toNat = d - 1 := by omega
    have hspot := h.body.spot a' rfl
    have ht := h.body.part (lo := 1) (hi := m) (by omega) (Nat.le_refl _) rfl
    have et : ((x.b.map u8V).drop 1).take (m - 1) = t.map u8V := by rw [hxb, ← htl]; simp [List.take_of_length_le]
    rw [et] at ht
    have hnn : (nx = nx + 1) = False := by simp
    have hZ : ∀ p, p < nx + 1 → upd (upd gt nx (some (.cells (nodeL x.t (some a') m d A n c) false))) (nx + 1) (some (.cells [] false)) p = upd gt nx (some (.cells (nodeL x.t (some a') m d A n c) false)) p := fun p hp => by rw [upd_e, if_neg (by omega)]
    have hz : upd (upd gt nx (some (.cells (nodeL x.t (some a') m d A n c) false))) (nx + 1) (some (.cells [] false)) (nx + 1) = some (.cells [] false) := by rw [upd_e, if_pos rfl]
    simp only [c_lanyardref05_Of, ↓gaW, ↓gaV, ↓gaC, ↓gaN, gaP, Nat.reduceEqDiff, Nat.reduceLeDiff, Nat.reduceAdd, Nat.reduceSub, Nat.reduceMul, Int.reduceLT, Int.reduceLE, Int.reduceEq, Int.reduceToNat, Int.reduceAdd, Int.reduceSub, Int.reduceMul, reduceCtorEq, ↓reduceIte, List.getD_cons_zero, List.getD_cons_succ, fillL, splice, List.take_zero, List.drop_zero, List.drop_succ_cons, List.take_succ_cons, List.drop_nil, List.take_nil, gaU, hm, decide_false, im1, id1, hqn, r3, c0, h7, hnn]
    repeat refine And.intro (by omega) ?_
    refine And.intro (by rcases hspot with h | h <;> simp [h]) ?_
    have e1 : rowOf ⟨nx + 1 + 1, b, upd (upd gt nx (some (.cells (nodeL x.t (some a') m d A n c) false))) (nx + 1) (some (.cells [] false))⟩ (some ⟨a'.block, a'.off + 1, a'.spot⟩) (m - 1) = some (t.map u8V) := (ht.keep (nx' := nx + 1 + 1) (by omega) fun p hp => by rw [hZ p (by omega), hF p hp]).rowOf
    have e1' : rowOf ⟨nx + 1 + 1, b, upd (upd gt nx (some (.cells [Value.int .i64 x.t, .slice (some a') m d, .slice A n c] false))) (nx + 1) (some (.cells [] false))⟩ (some ⟨a'.block, a'.off + 1, a'.spot⟩) (m - 1) = some (t.map u8V) := e1
    rw [e1']
    simp only [asO_e]
    refine app_lit (bytes := 1) (z := nx + 1) (e := 1) (by omega) hz (by omega) (by simp [htl]) (all_u8 _) (by omega) (by omega) fun A6 x6 g6 l6 k6 r6 => ?_
    rw [Nat.mul_one] at r6
    have hb6 : g6 nx = some (.cells (nodeL x.t (some a') m d A n c) false) := by rw [k6 nx (by omega)]; exact (hZ nx (by omega)).trans hb0
    have F6 : ∀ p, p < nx → g6 p = gt p := fun p hp => by rw [k6 p (by omega)]; exact (hZ p (by omega)).trans (hF p hp)
    have hga : g6 a'.block = some (.cells cl ro) := by rw [F6 _ r2, r3]
    have ha256 := a.toNat_lt
    obtain ⟨many, hmany⟩ : ∃ many : Int, many = 8 * (t.length : Int) - (a.toNat : Int) := ⟨_, rfl⟩
    have i1 : IntKind.i64.wrap (IntKind.i64.wrap (8 * ((m - 1 : Nat) : Int)) - IntKind.i64.wrap ((a.toNat : Nat) : Int)) = many := by rw [i64_w (8 * ((m - 1 : Nat) : Int)) (by omega), i64_w ((a.toNat : Nat) : Int) (by omega), i64_w _ (by omega)]; omega
    rw [← hmany] at eo
    simp only [↓gaW, ↓gaV, ↓gaC, ↓gaN, gaP, Nat.reduceEqDiff, Nat.reduceLeDiff, Nat.reduceAdd, Nat.reduceSub, Nat.reduceMul, Int.reduceLT, Int.reduceLE, Int.reduceEq, Int.reduceToNat, Int.reduceAdd, Int.reduceSub, Int.reduceMul, reduceCtorEq, ↓reduceIte, List.getD_cons_zero, List.getD_cons_succ, fillL, splice, List.take_zero, List.drop_zero, List.drop_succ_cons, List.take_succ_cons, List.drop_nil, List.take_nil, gaU, hb6, hga, c0, nodeL, List.getD_cons_succ, List.getD_cons_zero, i1]
    repeat refine And.intro (by omega) ?_
    refine callK_of (ct_rBits r6.1 (Nat.le_refl _) (by omega) (by omega)) (fun v x7 g7 l7 k7 hC => ?_) (by omega)
    have F7 : ∀ p, p < nx → g7 p = gt p := fun p hp => by rw [k7 p (by omega), F6 p hp]
    have hb7 : g7 nx = some (.cells (nodeL x.t (some a') m d A n c) false) := by rw [k7 nx (by omega), hb6]
    have hx7 : (nx = x7) = False := by simp; omega
    cases hr : bitsR t many with
    | error e =>
      rw [hr] at hC
      obtain ⟨rfl, he⟩ := hC
      have he0 : ¬ (e : Int) = 0 := by omega
      have er : ofR x = ([], 0, 2) := if_neg fun hc => by have := eo.1 hc; rw [hr] at this; cases this
      simp only [↓gaW, ↓gaV, ↓gaC, ↓gaN, gaP, Nat.reduceEqDiff, Nat.reduceLeDiff, Nat.reduceAdd, Nat.reduceSub, Nat.reduceMul, Int.reduceLT, Int.reduceLE, Int.reduceEq, Int.reduceToNat, Int.reduceAdd, Int.reduceSub, Int.reduceMul, reduceCtorEq, ↓reduceIte, gaE, implies_true, Nat.le_refl, Int.sub_zero, Nat.sub_zero, Int.le_refl, true_or, or_true, List.getD_cons_zero, List.getD_cons_succ, fillL, splice, List.take_zero, List.drop_zero, List.drop_succ_cons, List.take_succ_cons, List.drop_nil, List.take_nil, gaU, he0, decide_false, not_false_eq_true, decide_true, er]
      repeat refine And.intro (by omega) ?_
      refine And.intro (node_cells _ _ _ _ _ _ _) ?_
      exact ⟨by omega, fun p hp => by rw [if_neg (by omega), if_neg (by omega), F7 p hp], _, rfl, .nil⟩
    | ok y =>
      rw [hr] at hC
      obtain ⟨u, rfl, B', m', d', A', n', c', ks', rfl, hN⟩ := hC
      obtain ⟨g8, e8, G8, hb8⟩ := boxed (g := g7) (x := x7) (cs := [Value.int .i64 0, .slice none 0 0, .slice none 0 0]) (ds := nodeL y.t B' m' d' A' n' c')
      have hyw := bitsR_ws hr
      simp only [↓gaW, ↓gaV, ↓gaC, ↓gaN, gaP, Nat.reduceEqDiff, Nat.reduceLeDiff, Nat.reduceAdd, Nat.reduceSub, Nat.reduceMul, Int.reduceLT, Int.reduceLE, Int.reduceEq, Int.reduceToNat, Int.reduceAdd, Int.reduceSub, Int.reduceMul, reduceCtorEq, ↓reduceIte, List.getD_cons_zero, List.getD_cons_succ, fillL, splice, List.take_zero, List.drop_zero, List.drop_succ_cons, List.take_succ_cons, List.drop_nil, List.take_nil, gaU, hx7, hb7, decide_true, decide_false, not_true]
      repeat refine And.intro (by omega) ?_
      refine And.intro (node_cells _ _ _ _ _ _ _) ?_
      repeat refine And.intro (by omega) ?_
      rw [← e8]; clear e8
      refine callK_of (ct_Same y (by omega) x _ _ _ _ _ _ _ _ _ _ _ _ _ _ _ _ (hN.r.keep (x' := x7 + 1) (by omega) G8) (h.keep (x' := x7 + 1) (by omega) fun p hp => by rw [G8 p (by omega), F7 p hp])) (fun v x9 g9 l9 k9 hC => ?_) (by omega)
      obtain ⟨s, rfl, hs⟩ := hC
      have F9 : ∀ p, p < nx → g9 p = gt p := fun p hp => by rw [k9 p (by omega), G8 p (by omega), F7 p hp]
      cases s with
      | true =>
        have hyx := hs.1 rfl
        have er : ofR x = (t, many, 0) := by
          unfold ofR
          rw [if_pos (eo.2 (by rw [hr, hyx])), hxb, hmany]; rfl
        simp only [↓gaW, ↓gaV, ↓gaC, ↓gaN, gaP, Nat.reduceEqDiff, Nat.reduceLeDiff, Nat.reduceAdd, Nat.reduceSub, Nat.reduceMul, Int.reduceLT, Int.reduceLE, Int.reduceEq, Int.reduceToNat, Int.reduceAdd, Int.reduceSub, Int.reduceMul, reduceCtorEq, ↓reduceIte, gaE, implies_true, Nat.le_refl, Int.sub_zero, Nat.sub_zero, Int.le_refl, true_or, or_true, List.getD_cons_zero, List.getD_cons_succ, fillL, splice, List.take_zero, List.drop_zero, List.drop_succ_cons, List.take_succ_cons, List.drop_nil, List.take_nil, Bool.not_true, er]
        repeat refine And.intro (by first | omega | exact F9) ?_
        refine ⟨_, rfl, A6, m - 1, m - 1, rfl, Nat.le_refl _, htl, ?_⟩
        exact ((r6.1.keep l7 k7).keep (nx' := x7 + 1) (by omega) G8).keep l9 k9
      | false =>
        have er : ofR x = ([], 0, 2) := if_neg fun hc => by
          have h1 := eo.1 hc
          rw [hr] at h1
          injection h1 with h1
          have := hs.2 h1
          cases this
        simp only [↓gaW, ↓gaV, ↓gaC, ↓gaN, gaP, Nat.reduceEqDiff, Nat.reduceLeDiff, Nat.reduceAdd, Nat.reduceSub, Nat.reduceMul, Int.reduceLT, Int.reduceLE, Int.reduceEq, Int.reduceToNat, Int.reduceAdd, Int.reduceSub, Int.reduceMul, reduceCtorEq, ↓reduceIte, gaE, implies_true, Nat.le_refl, Int.sub_zero, Nat.sub_zero, Int.le_refl, true_or, or_true, List.getD_cons_zero, List.getD_cons_succ, fillL, splice, List.take_zero, List.drop_zero, List.drop_succ_cons, List.take_succ_cons, List.drop_nil, List.take_nil, Bool.not_false, er]
        repeat refine And.intro (by first | omega | exact F9) ?_
        exact ⟨_, rfl, .nil⟩
end
end Go.Ga

/- The law ScalarBits. -/
namespace Go.Ga
open Go Go.Proofs
set_option linter.unusedSimpArgs false
set_option linter.unusedVariables false
set_option maxRecDepth 100000
attribute [local irreducible] appendK

def nodeOf : Except Nat Fo.El → Fo.El
  | .ok y => y
  | .error _ => ⟨0, [], .nil⟩
def errOf : Except Nat Fo.El → Nat
  | .ok _ => 0
  | .error e => e
theorem NErr.any {lo nx : Nat} {g : Nat → Option Blk} {v : Value} {r : Except Nat Fo.El} (h : NErr lo nx g v r) : ∃ (B : Option Addr) (m d : Nat) (A : Option Addr) (n c : Nat) (ks : List Value), v = .tuple #[nodeV (nodeOf r).t B m d A n c, .int .i64 (errOf r : Nat)] ∧ NdL lo nx g (nodeOf r) B m d A n c ks := by
  cases r with
  | error e => exact ⟨none, 0, 0, none, 0, 0, [], h.1, NdL.zero⟩
  | ok y =>
    obtain ⟨u, rfl, B, m, d, A, n, c, ks, rfl, hN⟩ := h
    exact ⟨B, m, d, A, n, c, ks, rfl, hN⟩
theorem bits_nws {l : List UInt8} {many : Int} : (nodeOf (bitsR l many)).f.ws ≤ l.length + 2 := by
  cases h : bitsR l many with
  | error e => show 1 + 0 + 0 + 0 ≤ _; omega
  | ok y => exact bitsR_ws h

section
variable {nx : Nat} {gt : Nat → Option Blk}


theorem fn_Bits {A0 : Option Addr} {n0 c0 : Nat} {l0 : List UInt8} {many : Int} {x : Fo.El} {B : Option Addr} {m d : Nat} {A : Option Addr} {n c : Nat} {ks : List Value} (hr : Row nx gt 1 A0 n0 (l0.map u8V)) (hc : n0 ≤ c0) (hm : -9223372036854775808 ≤ many ∧ many ≤ 9223372036854775807) (h : NdR nx gt x B m d A n c ks) :
    Ct Tryd.prog 4 [.slice A0 n0 c0, .int .i64 many, nodeV x.t B m d A n c] nx gt fun v _ _ => v = .bool true := by
  refine Ct.of hmx r_lanyardlaw05_ScalarBits (by simp [c_lanyardlaw05_ScalarBits]) fun b hb => ?_
  have hF : ∀ q, q < nx → upd gt nx (some (.cells (nodeL x.t B m d A n c) false)) q = gt q := fun q hq => by simp only [upd_e]; rw [if_neg (by omega)]
  have hb0 : upd gt nx (some (.cells (nodeL x.t B m d A n c) false)) nx = some (.cells (nodeL x.t B m d A n c) false) := by simp only [upd_e, if_true]
  have hl0 : l0.length = n0 := by simpa using hr.len
  simp only [c_lanyardlaw05_ScalarBits, ↓gaW, ↓gaV, ↓gaC, ↓gaN, gaP, Nat.reduceEqDiff, Nat.reduceLeDiff, Nat.reduceAdd, Nat.reduceSub, Nat.reduceMul, Int.reduceLT, Int.reduceLE, Int.reduceEq, Int.reduceToNat, Int.reduceAdd, Int.reduceSub, Int.reduceMul, reduceCtorEq, ↓reduceIte, List.getD_cons_zero, List.getD_cons_succ, fillL, splice, List.take_zero, List.drop_zero, List.drop_succ_cons, List.take_succ_cons, List.drop_nil, List.take_nil, gaU]
  generalize upd gt nx (some (.cells (nodeL x.t B m d A n c) false)) = g0 at *
  refine callK_of ct_awake05 (fun v x1 g1 l1 k1 hC => ?_) (by omega)
  subst hC
  have F1 : ∀ p, p < nx → g1 p = gt p := fun p hp => by rw [k1 p (by omega), hF p hp]
  have hb1 : g1 nx = some (.cells (nodeL x.t B m d A n c) false) := by rw [k1 nx (by omega), hb0]
  simp only [↓gaW, ↓gaV, ↓gaC, ↓gaN, gaP, Nat.reduceEqDiff, Nat.reduceLeDiff, Nat.reduceAdd, Nat.reduceSub, Nat.reduceMul, Int.reduceLT, Int.reduceLE, Int.reduceEq, Int.reduceToNat, Int.reduceAdd, Int.reduceSub, Int.reduceMul, reduceCtorEq, ↓reduceIte, List.getD_cons_zero, List.getD_cons_succ, fillL, splice, List.take_zero, List.drop_zero, List.drop_succ_cons, List.take_succ_cons, List.drop_nil, List.take_nil, hb1]
  repeat refine And.intro (by omega) ?_
  refine callK_of (ct_Light (h.keep (x' := x1) (by omega) F1)) (fun v x2 g2 l2 k2 hC => ?_) (by omega)
  obtain ⟨ok, rfl, hok⟩ := hC
  have F2 : ∀ p, p < nx → g2 p = gt p := fun p hp => by rw [k2 p (by omega), F1 p hp]
  have hb2 : g2 nx = some (.cells (nodeL x.t B m d A n c) false) := by rw [k2 nx (by omega), hb1]
  cases ok with
  | false =>
    simp only [↓gaW, ↓gaV, ↓gaC, ↓gaN, gaP, Nat.reduceEqDiff, Nat.reduceLeDiff, Nat.reduceAdd, Nat.reduceSub, Nat.reduceMul, Int.reduceLT, Int.reduceLE, Int.reduceEq, Int.reduceToNat, Int.reduceAdd, Int.reduceSub, Int.reduceMul, reduceCtorEq, ↓reduceIte, gaE, implies_true, Nat.le_refl, Int.sub_zero, Nat.sub_zero, Int.le_refl, true_or, or_true, List.getD_cons_zero, List.getD_cons_succ, fillL, splice, List.take_zero, List.drop_zero, List.drop_succ_cons, List.take_succ_cons, List.drop_nil, List.take_nil, Bool.not_false]
    exact ⟨by omega, F2⟩
  | true =>
    have hxw := hok rfl
    by_cases hn0 : (1000 : Int) < (n0 : Int)
    · simp only [↓gaW, ↓gaV, ↓gaC, ↓gaN, gaP, Nat.reduceEqDiff, Nat.reduceLeDiff, Nat.reduceAdd, Nat.reduceSub, Nat.reduceMul, Int.reduceLT, Int.reduceLE, Int.reduceEq, Int.reduceToNat, Int.reduceAdd, Int.reduceSub, Int.reduceMul, reduceCtorEq, ↓reduceIte, gaE, implies_true, Nat.le_refl, Int.sub_zero, Nat.sub_zero, Int.le_refl, true_or, or_true, List.getD_cons_zero, List.getD_cons_succ, fillL, splice, List.take_zero, List.drop_zero, List.drop_succ_cons, List.take_succ_cons, List.drop_nil, List.take_nil, Bool.not_true, hn0, decide_true]
      exact ⟨by omega, F2⟩
    simp only [↓gaW, ↓gaV, ↓gaC, ↓gaN, gaP, Nat.reduceEqDiff, Nat.reduceLeDiff, Nat.reduceAdd, Nat.reduceSub, Nat.reduceMul, Int.reduceLT, Int.reduceLE, Int.reduceEq, Int.reduceToNat, Int.reduceAdd, Int.reduceSub, Int.reduceMul, reduceCtorEq, ↓reduceIte, List.getD_cons_zero, List.getD_cons_succ, fillL, splice, List.take_zero, List.drop_zero, List.drop_succ_cons, List.take_succ_cons, List.drop_nil, List.take_nil, Bool.not_true, hn0, decide_false]
    repeat refine And.intro (by omega) ?_
    have hws := bits_nws (l := l0) (many := many)
    refine callK_of (ct_Bits (hr.keep (nx' := x2) (by omega) F2) hc (by omega) hm) (fun v x3 g3 l3 k3 hC => ?_) (by omega)
    obtain ⟨B3, m3, d3, A3, n3, c3, ks3, rfl, N3⟩ := hC.any
    have F3 : ∀ p, p < nx → g3 p = gt p := fun p hp => by rw [k3 p (by omega), F2 p hp]
    have hb3 : g3 nx = some (.cells (nodeL x.t B m d A n c) false) := by rw [k3 nx (by omega), hb2]
    simp only [↓gaW, ↓gaV, ↓gaC, ↓gaN, gaP, Nat.reduceEqDiff, Nat.reduceLeDiff, Nat.reduceAdd, Nat.reduceSub, Nat.reduceMul, Int.reduceLT, Int.reduceLE, Int.reduceEq, Int.reduceToNat, Int.reduceAdd, Int.reduceSub, Int.reduceMul, reduceCtorEq, ↓reduceIte, List.getD_cons_zero, List.getD_cons_succ, fillL, splice, List.take_zero, List.drop_zero, List.drop_succ_cons, List.take_succ_cons, List.drop_nil, List.take_nil, gaU]
    repeat refine And.intro (by omega) ?_
    refine And.intro (node_cells _ _ _ _ _ _ _) ?_
    repeat refine And.intro (by omega) ?_
    obtain ⟨g4, e4, G4, hq4⟩ := boxed (g := g3) (x := x3) (cs := [Value.int .i64 0, .slice none 0 0, .slice none 0 0]) (ds := nodeL (nodeOf (bitsR l0 many)).t B3 m3 d3 A3 n3 c3)
    rw [← e4]; clear e4
    obtain ⟨x4, ex4⟩ : ∃ y, y = x3 + 1 := ⟨_, rfl⟩
    rw [← ex4]
    have F4 : ∀ p, p < nx → g4 p = gt p := fun p hp => by rw [G4 p (by omega), F3 p hp]
    have hb4 : g4 nx = some (.cells (nodeL x.t B m d A n c) false) := by rw [G4 nx (by omega), hb3]
    refine callK_of (ct_rBits (hr.keep (nx' := x4) (by omega) F4) hc (by omega) hm) (fun v x5 g5 l5 k5 hC => ?_) (by omega)
    obtain ⟨B5, m5, d5, A5, n5, c5, ks5, rfl, N5⟩ := hC.any
    have F5 : ∀ p, p < nx → g5 p = gt p := fun p hp => by rw [k5 p (by omega), F4 p hp]
    have hb5 : g5 nx = some (.cells (nodeL x.t B m d A n c) false) := by rw [k5 nx (by omega), hb4]
    have hq5 : g5 x3 = some (.cells (nodeL (nodeOf (bitsR l0 many)).t B3 m3 d3 A3 n3 c3) false) := by rw [k5 _ (by omega), hq4]
    have hx35 : (x3 = x5) = False := by simp; omega
    simp only [↓gaW, ↓gaV, ↓gaC, ↓gaN, gaP, Nat.reduceEqDiff, Nat.reduceLeDiff, Nat.reduceAdd, Nat.reduceSub, Nat.reduceMul, Int.reduceLT, Int.reduceLE, Int.reduceEq, Int.reduceToNat, Int.reduceAdd, Int.reduceSub, Int.reduceMul, reduceCtorEq, ↓reduceIte, List.getD_cons_zero, List.getD_cons_succ, fillL, splice, List.take_zero, List.drop_zero, List.drop_succ_cons, List.take_succ_cons, List.drop_nil, List.take_nil, gaU, hx35, hq5]
    repeat refine And.intro (by omega) ?_
    refine And.intro (node_cells _ _ _ _ _ _ _) ?_
    repeat refine And.intro (by omega) ?_
    obtain ⟨g6, e6, G6, hq6⟩ := boxed (g := g5) (x := x5) (cs := [Value.int .i64 0, .slice none 0 0, .slice none 0 0]) (ds := nodeL (nodeOf (bitsR l0 many)).t B5 m5 d5 A5 n5 c5)
    rw [← e6]; clear e6
    obtain ⟨x6, ex6⟩ : ∃ y, y = x5 + 1 := ⟨_, rfl⟩
    rw [← ex6]
    have F6 : ∀ p, p < nx → g6 p = gt p := fun p hp => by rw [G6 p (by omega), F5 p hp]
    have hb6 : g6 nx = some (.cells (nodeL x.t B m d A n c) false) := by rw [G6 nx (by omega), hb5]
    have N6 := ((N3.r.keep (x' := x4) (by omega) G4).keep (x' := x5) l5 k5).keep (x' := x6) (by omega) G6
    have N7 := N5.r.keep (x' := x6) (by omega) G6
    refine callK_of (ct_Same (nodeOf (bitsR l0 many)) (by omega) (nodeOf (bitsR l0 many)) _ _ _ _ _ _ _ _ _ _ _ _ _ _ _ _ (N6) (N7)) (fun v x7 g7 l7 k7 hC => ?_) (by omega)
    obtain ⟨s7, rfl, hs7⟩ := hC
    have ht7 : s7 = true := hs7.2 rfl
    subst ht7
    have F7 : ∀ p, p < nx → g7 p = gt p := fun p hp => by rw [k7 p (by omega), F6 p hp]
    have hb7 : g7 nx = some (.cells (nodeL x.t B m d A n c) false) := by rw [k7 nx (by omega), hb6]
    simp only [↓gaW, ↓gaV, ↓gaC, ↓gaN, gaP, Nat.reduceEqDiff, Nat.reduceLeDiff, Nat.reduceAdd, Nat.reduceSub, Nat.reduceMul, Int.reduceLT, Int.reduceLE, Int.reduceEq, Int.reduceToNat, Int.reduceAdd, Int.reduceSub, Int.reduceMul, reduceCtorEq, ↓reduceIte, List.getD_cons_zero, List.getD_cons_succ, fillL, splice, List.take_zero, List.drop_zero, List.drop_succ_cons, List.take_succ_cons, List.drop_nil, List.take_nil, hb7]
    repeat refine And.intro (by omega) ?_
    refine callK_of (ct_Of (h.keep (x' := x7) (by omega) F7) (by omega)) (fun v x8 g8 l8 k8 hC => ?_) (by omega)
    obtain ⟨u8, rfl, A8, n8, c8, rfl, hc8, hl8, r8⟩ := hC
    have F8 : ∀ p, p < nx → g8 p = gt p := fun p hp => by rw [k8 p (by omega), F7 p hp]
    have hb8 : g8 nx = some (.cells (nodeL x.t B m d A n c) false) := by rw [k8 nx (by omega), hb7]
    simp only [↓gaW, ↓gaV, ↓gaC, ↓gaN, gaP, Nat.reduceEqDiff, Nat.reduceLeDiff, Nat.reduceAdd, Nat.reduceSub, Nat.reduceMul, Int.reduceLT, Int.reduceLE, Int.reduceEq, Int.reduceToNat, Int.reduceAdd, Int.reduceSub, Int.reduceMul, reduceCtorEq, ↓reduceIte, List.getD_cons_zero, List.getD_cons_succ, fillL, splice, List.take_zero, List.drop_zero, List.drop_succ_cons, List.take_succ_cons, List.drop_nil, List.take_nil, hb8]
    repeat refine And.intro (by omega) ?_
    refine callK_of (ct_rOf (h.keep (x' := x8) (by omega) F8) (by omega)) (fun v x9 g9 l9 k9 hC => ?_) (by omega)
    obtain ⟨u9, rfl, A9, n9, c9, rfl, hc9, hl9, r9⟩ := hC
    have F9 : ∀ p, p < nx → g9 p = gt p := fun p hp => by rw [k9 p (by omega), F8 p hp]
    have hb9 : g9 nx = some (.cells (nodeL x.t B m d A n c) false) := by rw [k9 nx (by omega), hb8]
    simp only [↓gaW, ↓gaV, ↓gaC, ↓gaN, gaP, Nat.reduceEqDiff, Nat.reduceLeDiff, Nat.reduceAdd, Nat.reduceSub, Nat.reduceMul, Int.reduceLT, Int.reduceLE, Int.reduceEq, Int.reduceToNat, Int.reduceAdd, Int.reduceSub, Int.reduceMul, reduceCtorEq, ↓reduceIte, List.getD_cons_zero, List.getD_cons_succ, fillL, splice, List.take_zero, List.drop_zero, List.drop_succ_cons, List.take_succ_cons, List.drop_nil, List.take_nil, hb9]
    repeat refine And.intro (by omega) ?_
    refine callK_of (ct_True (h.keep (x' := x9) (by omega) F9) (by omega)) (fun v xa ga la ka hC => ?_) (by omega)
    subst hC
    have Fa : ∀ p, p < nx → ga p = gt p := fun p hp => by rw [ka p (by omega), F9 p hp]
    have hba : ga nx = some (.cells (nodeL x.t B m d A n c) false) := by rw [ka nx (by omega), hb9]
    simp only [↓gaW, ↓gaV, ↓gaC, ↓gaN, gaP, Nat.reduceEqDiff, Nat.reduceLeDiff, Nat.reduceAdd, Nat.reduceSub, Nat.reduceMul, Int.reduceLT, Int.reduceLE, Int.reduceEq, Int.reduceToNat, Int.reduceAdd, Int.reduceSub, Int.reduceMul, reduceCtorEq, ↓reduceIte, List.getD_cons_zero, List.getD_cons_succ, fillL, splice, List.take_zero, List.drop_zero, List.drop_succ_cons, List.take_succ_cons, List.drop_nil, List.take_nil, hba]
    repeat refine And.intro (by omega) ?_
    refine callK_of (ct_rTrue (h.keep (x' := xa) (by omega) Fa) (by omega)) (fun v xb gb lb kb hC => ?_) (by omega)
    subst hC
    have Fb : ∀ p, p < nx → gb p = gt p := fun p hp => by rw [kb p (by omega), Fa p hp]
    have hbb : gb nx = some (.cells (nodeL x.t B m d A n c) false) := by rw [kb nx (by omega), hba]
    simp only [↓gaW, ↓gaV, ↓gaC, ↓gaN, gaP, Nat.reduceEqDiff, Nat.reduceLeDiff, Nat.reduceAdd, Nat.reduceSub, Nat.reduceMul, Int.reduceLT, Int.reduceLE, Int.reduceEq, Int.reduceToNat, Int.reduceAdd, Int.reduceSub, Int.reduceMul, reduceCtorEq, ↓reduceIte, List.getD_cons_zero, List.getD_cons_succ, fillL, splice, List.take_zero, List.drop_zero, List.drop_succ_cons, List.take_succ_cons, List.drop_nil, List.take_nil, hbb]
    repeat refine And.intro (by omega) ?_
    refine callK_of (ct_Bool _) (fun v xc gc lc kc hC => ?_) (by omega)
    obtain ⟨Bc, mc, dc, Ac, nc, cc, ksc, rfl, Nc⟩ := hC
    have Fc : ∀ p, p < nx → gc p = gt p := fun p hp => by rw [kc p (by omega), Fb p hp]
    have hbc : gc nx = some (.cells (nodeL x.t B m d A n c) false) := by rw [kc nx (by omega), hbb]
    simp only [↓gaW, ↓gaV, ↓gaC, ↓gaN, gaP, Nat.reduceEqDiff, Nat.reduceLeDiff, Nat.reduceAdd, Nat.reduceSub, Nat.reduceMul, Int.reduceLT, Int.reduceLE, Int.reduceEq, Int.reduceToNat, Int.reduceAdd, Int.reduceSub, Int.reduceMul, reduceCtorEq, ↓reduceIte, List.getD_cons_zero, List.getD_cons_succ, fillL, splice, List.take_zero, List.drop_zero, List.drop_succ_cons, List.take_succ_cons, List.drop_nil, List.take_nil]
    repeat refine And.intro (by omega) ?_
    refine callK_of (ct_rBool _) (fun v xd gd ld kd hC => ?_) (by omega)
    obtain ⟨Bd, md, dd, Ad, nd, cd, ksd, rfl, Nd⟩ := hC
    have Fd : ∀ p, p < nx → gd p = gt p := fun p hp => by rw [kd p (by omega), Fc p hp]
    have hbd : gd nx = some (.cells (nodeL x.t B m d A n c) false) := by rw [kd nx (by omega), hbc]
    simp only [↓gaW, ↓gaV, ↓gaC, ↓gaN, gaP, Nat.reduceEqDiff, Nat.reduceLeDiff, Nat.reduceAdd, Nat.reduceSub, Nat.reduceMul, Int.reduceLT, Int.reduceLE, Int.reduceEq, Int.reduceToNat, Int.reduceAdd, Int.reduceSub, Int.reduceMul, reduceCtorEq, ↓reduceIte, List.getD_cons_zero, List.getD_cons_succ, fillL, splice, List.take_zero, List.drop_zero, List.drop_succ_cons, List.take_succ_cons, List.drop_nil, List.take_nil]
    repeat refine And.intro (by omega) ?_
    have hbw := boolE_ws (decide (3 < many))
    refine callK_of (ct_Same (boolE (decide (3 < many))) (by omega) (boolE (decide (3 < many))) _ _ _ _ _ _ _ _ _ _ _ _ _ _ _ _ (Nc.r.keep ld kd) (Nd.r)) (fun v xe ge le ke hC => ?_) (by omega)
    obtain ⟨se, rfl, hse⟩ := hC
    have hte : se = true := hse.2 rfl
    subst hte
    have Fe : ∀ p, p < nx → ge p = gt p := fun p hp => by rw [ke p (by omega), Fd p hp]
    have hbe : ge nx = some (.cells (nodeL x.t B m d A n c) false) := by rw [ke nx (by omega), hbd]
    have e3 : rowOf ⟨xe, b, ge⟩ A8 n8 = some ((ofR x).1.map u8V) := ((((((r8.keep l9 k9).keep la ka).keep lb kb).keep lc kc).keep ld kd).keep le ke).rowOf
    have e4 : rowOf ⟨xe, b, ge⟩ A9 n9 = some ((ofR x).1.map u8V) := (((((r9.keep la ka).keep lb kb).keep lc kc).keep ld kd).keep le ke).rowOf
    simp only [↓gaW, ↓gaV, ↓gaC, ↓gaN, gaP, Nat.reduceEqDiff, Nat.reduceLeDiff, Nat.reduceAdd, Nat.reduceSub, Nat.reduceMul, Int.reduceLT, Int.reduceLE, Int.reduceEq, Int.reduceToNat, Int.reduceAdd, Int.reduceSub, Int.reduceMul, reduceCtorEq, ↓reduceIte, List.getD_cons_zero, List.getD_cons_succ, fillL, splice, List.take_zero, List.drop_zero, List.drop_succ_cons, List.take_succ_cons, List.drop_nil, List.take_nil, gaE, implies_true, Nat.le_refl, Int.sub_zero, Nat.sub_zero, Int.le_refl, true_or, or_true, e3, e4, bytesOf_map, str_eq, decide_true, beq_self_eq_true]
    repeat refine And.intro (by omega) ?_
    exact Fe
end
end Go.Ga
