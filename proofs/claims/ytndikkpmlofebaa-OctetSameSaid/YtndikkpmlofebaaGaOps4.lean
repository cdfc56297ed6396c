/- Each operation of the machine does what its resolved form says: append. -/
import Derived.Test.YtndikkpmlofebaaGaOps3
namespace Go.Ga
open Go

section
variable {P : Program} {r : Ren} {m : Mem} {w : World} {f : Regs}

theorem lappend_getD (l1 l2 : List Value) (i : Nat) : (l1 ++ l2).getD i undef = if i < l1.length then l1.getD i undef else l2.getD (i - l1.length) undef := by
  simp only [List.getD_eq_getElem?_getD, List.getElem?_append]
  split <;> rfl

theorem aappend_getD (c1 c2 : Array Value) (i : Nat) : (c1 ++ c2).getD i undef = if i < c1.size then c1.getD i undef else c2.getD (i - c1.size) undef := by
  rw [← toList_getD, ← toList_getD, ← toList_getD, Array.toList_append, lappend_getD]
  simp

/-- A slice's or a string's elements go behind: there is room. -/
theorem append_fit {t u e : TypeId} {d : TypeDesc} {i : TypeInfo} (ht : P.underlying t = some (.slice e)) (hu : P.underlying u = some d) (hd : (∃ e2, d = .slice e2) ∨ d = .string) (hi : P.info? e = some i) (ty : TypeId) (A' : Option Addr) (n c' k : Nat) (x' : Value)
    (hl : (Builtin.lenOf x').run P w = .ok k w) {news' : Array Value} (hf : (Builtin.firstCells i.size k x').run P w = .ok news' w) (hroom : n + k ≤ c') {w' : World} (hst : ∀ a, A' = some a → (storeCells (a.add (n * i.size)) news'.toList).run P w = .ok () w') (hn : A' = none → w' = w) :
    (Builtin.append_ #[t, u] ty #[.slice A' n c', x']).run P w = .ok (.slice A' (n + k) c') w' := by
  cases A' with
  | none =>
    rw [hn rfl]
    rcases hd with ⟨e2, rfl⟩ | rfl <;> simp [Builtin.append_, run_underlying ht, run_underlying hu, sizeOf, typeInfo, hi, hl, hroom, hf]
  | some a =>
    have h := hst a rfl
    rcases hd with ⟨e2, rfl⟩ | rfl <;> simp [Builtin.append_, run_underlying ht, run_underlying hu, sizeOf, typeInfo, hi, hl, hroom, hf, h]

/-- .. there is not. -/
theorem append_more {t u e : TypeId} {d : TypeDesc} {i : TypeInfo} {z : Value} (ht : P.underlying t = some (.slice e)) (hu : P.underlying u = some d) (hd : (∃ e2, d = .slice e2) ∨ d = .string) (hi : P.info? e = some i) (hz : i.zero = some z) (ty : TypeId)
    (A' : Option Addr) (n c' k : Nat) (x' : Value) (hl : (Builtin.lenOf x').run P w = .ok k w) {news' olds' : Array Value} (hf : (Builtin.firstCells i.size k x').run P { w with drawn := w.drawn + 1 } = .ok news' { w with drawn := w.drawn + 1 })
    (ho : (Builtin.firstCells i.size n (.slice A' n c')).run P { w with drawn := w.drawn + 1 } = .ok olds' { w with drawn := w.drawn + 1 }) (hroom : c' < n + k) (h63 : n + k ≤ 9223372036854775807) (hb : (n + k) * i.bytes ≤ 140737488355328) :
    (Builtin.append_ #[t, u] ty #[.slice A' n c', x']).run P w = .ok (.slice (some ⟨w.heap.size, 0, none⟩) (n + k) (grownCap w (n + k) c' e))
      { w with heap := w.heap.push (.cells (olds' ++ news' ++ Builtin.zeroCells z.cells (grownCap w (n + k) c' e - (n + k))) e), drawn := w.drawn + 1 } := by
  have hn : ¬ (n + k ≤ c') := by omega
  have h63' : ¬ (9223372036854775807 < ((n : Int) + (k : Int))) := by omega
  have h48 := growslice_fits (need := n + k) (old := c') (bytes := i.bytes) (by omega) hb
  have h48' : ¬ (281474976710656 < Builtin.nextslicecap (n + k) c' * i.bytes) := by omega
  have hf2 : (Builtin.firstCells i.size k x').run P w.drew = .ok news' w.drew := hf
  have ho2 : (Builtin.firstCells i.size n (.slice A' n c')).run P w.drew = .ok olds' w.drew := ho
  have hrow : ({ w with heap := w.heap.push (.cells (olds' ++ news' ++ Builtin.zeroCells z.cells (grownCap w (n + k) c' e - (n + k))) e), drawn := w.drawn + 1 } : World) =
    w.drew.alloc (.cells (olds' ++ news' ++ Builtin.zeroCells z.cells (grownCap w (n + k) c' e - (n + k))) e) := rfl
  rw [hrow]
  rcases hd with ⟨e2, rfl⟩ | rfl <;>
    simp [Builtin.append_, run_underlying ht, run_underlying hu, sizeOf, typeInfo, zeroValue, hi, hz, hl, hn, h63', h48', Question.forced, hf2, ho2, newRow, grownCap]

theorem grownCap_ge' (w : World) (need old : Nat) (e : TypeId) : need ≤ grownCap w need old e := by
  simp only [grownCap, Question.cut]
  omega

theorem size_zeroCells' (z : Array Value) (n : Nat) : (Builtin.zeroCells z n).size = n * z.size := by simp [Builtin.zeroCells]

/-- 'append' does what its resolved form says. -/
theorem appendK_ok {t u e : TypeId} {d : TypeDesc} {i : TypeInfo} {z : Value} (ht : P.underlying t = some (.slice e)) (hu : P.underlying u = some d) (hd : (∃ e2, d = .slice e2) ∨ d = .string) (hi : P.info? e = some i) (hz : i.zero = some z) (hzs : z.cells.size = i.size)
    (ty : TypeId) {A : Option Addr} {n c k : Nat} {news : List Value} {K : Value → Mem → Prop} (h : appendK i.size i.bytes m A n c k news K) (hwf : m.bar ≤ m.next) :
    ∃ v m', K v m' ∧ MExt m m' ∧ ∀ (r : Ren) (w : World) (s' x' : Value), MemRel r m w → VR r (.slice A n c) s' → (Builtin.lenOf x').run P w = .ok k w →
      (∀ d, ∃ news' : Array Value, (Builtin.firstCells i.size k x').run P { w with drawn := d } = .ok news' { w with drawn := d } ∧ news'.size = news.length ∧ ∀ j, VR r (news.getD j undef) (news'.getD j undef)) →
      StepOK P (Builtin.append_ #[t, u] ty #[s', x']) r m w (fun r' v' => VR r' v v') m' := by
  obtain ⟨hnl, hpos, hone, h⟩ := h
  split at h
  · -- within the capacity
    rename_i hfit
    cases A with
    | none =>
      refine ⟨_, _, h, MExt.refl m, fun r w s' x' hm hs hl hf => ?_⟩
      obtain ⟨h1, h2, rfl⟩ := hs.slice_nil
      subst h1 h2
      have hk : k = 0 := by omega
      subst hk
      obtain ⟨news', hf, _, _⟩ := hf w.drawn
      exact .pure hm (append_fit ht hu hd hi ty none 0 0 0 x' hl hf (Nat.le_refl _) (w' := w) (fun a ha => by cases ha) (fun _ => rfl)) .snil
    | some a =>
      simp only at h
      split at h
      · rename_i hk
        subst hk
        refine ⟨_, _, h, MExt.refl m, fun r w s' x' hm hs hl hf => ?_⟩
        obtain ⟨a', c', rfl, hnc, hsr⟩ := hs.slice_inv
        obtain ⟨news', hf, hsz, _⟩ := hf w.drawn
        have hn' : news'.toList = [] := by
          apply List.eq_nil_of_length_eq_zero
          simp [hsz, hnl]
        exact .pure hm (append_fit ht hu hd hi ty (some a') n c' 0 x' hl hf (by have := hsr.le; omega) (w' := w) (fun b _ => by rw [hn']; rfl) (fun hx => by cases hx)) (.slice hfit hsr)
      · rename_i hk
        obtain ⟨l, hg, hbar, hlen, h1, h⟩ := writeK_elim h
        refine ⟨_, _, h, MExt.put hbar _, fun r w s' x' hm hs hl hf => ?_⟩
        obtain ⟨a', c', rfl, hnc, hsr⟩ := hs.slice_inv
        obtain ⟨news', hf, hsz, hnv⟩ := hf w.drawn
        have ha : AR r a.block a.off a' := hsr.loc.resolve_left (by have := hsr.le; omega)
        obtain ⟨w', hrun, hm', hfr⟩ := storeCells_ok (P := P) hm (ha.add (n * i.size)) hg hbar news news'.toList hlen (by simpa using hsz) (fun j _ => by rw [toList_getD news']; exact hnv j) h1
        exact ⟨r, _, w', append_fit ht hu hd hi ty (some a') n c' k x' hl hf (by have := hsr.le; omega) (fun b hb => by injection hb with hb; subst hb; exact hrun) (fun hx => by cases hx), .slice hfit hsr, hm', hfr⟩
  · -- beyond it
    rename_i hfit
    obtain ⟨hby, h63, h⟩ := h
    split at h
    · cases h
    · rename_i old hold
      -- a new row, whatever is gone
      have grow : ∀ (r r1 : Ren) (m1 : Mem) (w : World) (s' x' : Value), MemRel r m w → VR r (.slice A n c) s' → (Builtin.lenOf x').run P w = .ok k w →
          (∀ d, ∃ news' : Array Value, (Builtin.firstCells i.size k x').run P { w with drawn := d } = .ok news' { w with drawn := d } ∧ news'.size = news.length ∧ ∀ j, VR r (news.getD j undef) (news'.getD j undef)) →
          MemRel r1 m1 w → Fr r r1 m w w → MExt m m1 → m1.next = m.next → (∀ A' c', s' = .slice A' n c' → c' < n + k) →
          StepOK P (Builtin.append_ #[t, u] ty #[s', x']) r m w (fun r' v' => VR r' (.slice (some ⟨m.next, 0, some i.size⟩) (n + k) (n + k)) v') (m1.add (.cells (old ++ news) false)) := by
        intro r r1 m1 w s' x' hm hs hl hf hm1 hf1 hx1 hnx hcap
        obtain ⟨news', hf, hsz, hnv⟩ := hf (w.drawn + 1)
        obtain ⟨olds', ho, hosz, hol, hov⟩ := firstCells_ok (P := P) hm hs (Nat.le_refl n) hold (w.drawn + 1)
        have hs' : ∃ A' c', s' = .slice A' n c' := by
          cases A with
          | none => obtain ⟨h1, h2, rfl⟩ := hs.slice_nil; subst h1; exact ⟨_, _, rfl⟩
          | some a => obtain ⟨a', c', rfl, _⟩ := hs.slice_inv; exact ⟨_, _, rfl⟩
        obtain ⟨A', c', rfl⟩ := hs'
        have hlt := hcap A' c' rfl
        have hrun := append_more (P := P) ht hu hd hi hz ty A' n c' k x' hl hf ho hlt h63 hby
        have hge := grownCap_ge' w (n + k) c' e
        have hsize : (olds' ++ news' ++ Builtin.zeroCells z.cells (grownCap w (n + k) c' e - (n + k))).size = grownCap w (n + k) c' e * i.size := by
          simp only [Array.size_append, size_zeroCells', hzs, hosz, hsz, hol, hnl, ← Nat.add_mul]
          congr 1
          omega
        obtain ⟨r', h1, h2, h3⟩ := newRow_ok hm1 e (old ++ news) (olds' ++ news' ++ Builtin.zeroCells z.cells (grownCap w (n + k) c' e - (n + k))) (by simp; omega) (fun j hj => by
          rw [List.length_append] at hj
          rw [lappend_getD, aappend_getD, if_pos (show j < (olds' ++ news').size by rw [Array.size_append]; omega), aappend_getD, hosz]
          split
          · exact (hov j).mono hf1.ext
          · exact (hnv _).mono hf1.ext) (w.drawn + 1)
        refine ⟨r', _, _, hrun, ?_, h1, hf1.trans hx1 h2⟩
        rw [hnx] at h3
        refine .slice (Nat.le_refl _) ⟨hge, .inr ⟨rfl, _, h3, fun _ _ _ ee => by injection ee with e1 e2 e3; exact ⟨e1, by simp only; omega⟩⟩, fun e' he => .inr fun cb base csz hat => ?_, fun he => by cases he⟩
        injection he with he
        subst he
        simp only at hat
        rw [h3] at hat
        injection hat with hat
        injection hat with _ _ hcs
        rw [← hcs, hsize]
        simp
      cases A with
      | none =>
        refine ⟨_, _, h, MExt.add hwf _, fun r w s' x' hm hs hl hf => grow r r m w s' x' hm hs hl hf hm (Fr.refl r m w) (MExt.refl m) rfl fun A' c' he => ?_⟩
        obtain ⟨h1, h2, rfl⟩ := hs.slice_nil
        injection he with _ _ he
        omega
      | some a =>
        simp only at h
        cases hsp : a.spot with
        | none =>
          simp only [hsp] at h
          refine ⟨_, _, h, MExt.add hwf _, fun r w s' x' hm hs hl hf => grow r r m w s' x' hm hs hl hf hm (Fr.refl r m w) (MExt.refl m) rfl fun A' c' he => ?_⟩
          obtain ⟨a', c2, rfl, _, hsr⟩ := hs.slice_inv
          injection he with _ _ he
          have := hsr.exact hsp
          omega
        | some e1 =>
          simp only [hsp] at h
          obtain ⟨rfl, hbar, ⟨l, hg⟩, h⟩ := h
          refine ⟨_, _, h, (MExt.kill hbar).trans (MExt.add (m := m.kill a.block) hwf _), fun r w s' x' hm hs hl hf => ?_⟩
          obtain ⟨a', c', rfl, hnc, hsr⟩ := hs.slice_inv
          by_cases hroom : n + k ≤ c'
          · -- the machine writes in place: the row is taken over
            have ha : AR r a.block a.off a' := hsr.loc.resolve_left (by omega)
            obtain ⟨cb, base, csz, hn, rfl⟩ := ha.live hm hg
            obtain ⟨cc, ce, fr, hh, hc1, hc2, hc3, hc4⟩ := live_cells hm hn hg
            have hrm : a.off + c' * i.size ≤ csz := (hsr.room i.size hsp).resolve_left (by omega) _ _ _ hn
            obtain ⟨news', hf0, hsz, hnv⟩ := hf w.drawn
            have hone' : ∀ v ∈ news'.toList, v.oneCell' = true := by
              intro v hvm
              obtain ⟨j, hj, rfl⟩ := List.getElem_of_mem hvm
              have hr := hnv j
              have hj' : j < news.length := by simp at hj; omega
              have e1 : news.getD j undef = news[j] := by simp [List.getD, List.getElem?_eq_getElem hj']
              rw [e1, ← toList_getD news'] at hr
              have e2 : news'.toList.getD j undef = news'.toList[j] := by simp [List.getD, List.getElem?_eq_getElem hj]
              rw [e2] at hr
              exact hr.oneCell (hone _ (List.getElem_mem _))
            have hmul : (n + k) * i.size ≤ c' * i.size := Nat.mul_le_mul_right _ hroom
            rw [Nat.add_mul] at hmul
            have hnsz : news'.size = k * i.size := by rw [hsz, hnl]
            have holdlen : old.length = n * i.size := by
              unfold rowOf at hold
              split at hold
              · rename_i h0
                simp only [Option.some.injEq] at hold
                subst hold
                simp [h0]
              · simp only [hg] at hold
                split at hold
                · simp only [Option.some.injEq] at hold
                  subst hold
                  simp
                  omega
                · cases hold
            have holdv : ∀ j, j < n * i.size → a.off + j < l.length ∧ old.getD j undef = l.getD (a.off + j) undef := by
              intro j hj
              unfold rowOf at hold
              split at hold
              · omega
              · simp only [hg] at hold
                split at hold
                · rename_i hle
                  simp only [Option.some.injEq] at hold
                  subst hold
                  refine ⟨by omega, ?_⟩
                  simp only [List.getD_eq_getElem?_getD, List.getElem?_take, hj, if_true, List.getElem?_drop]
                · cases hold
            obtain ⟨c2, heap', hrun, hhs, hself, hoth, hcs, hval⟩ := storeCells_run (P := P) ce fr news'.toList (base + a.off + n * i.size) 0 w cc hh (by simp only [Array.length_toList]; omega)
              (fun j hj => by have := hc4 rfl; simp only [Array.length_toList] at hj; omega) hone'
            have hrg := hm.regrow hn hbar (b := .cells (old ++ news) false) (o' := .cells c2 ce fr) (heap' := heap') (base + a.off) (csz - a.off) hhs hself hoth
              (fun r' hx => ⟨c2, ce, fr, rfl, by rw [List.length_append, holdlen, hnl]; omega, by omega, fun j hj => by
                rw [List.length_append, holdlen, hnl] at hj
                rw [hval, lappend_getD, holdlen]
                simp only [Array.length_toList]
                split
                · rename_i hjo
                  rw [if_neg (by omega), (holdv j hjo).2]
                  have := hc3 (a.off + j) (holdv j hjo).1
                  rw [show base + (a.off + j) = base + a.off + j by omega] at this
                  exact this.mono hx
                · rename_i hjo
                  rw [if_pos (by omega), toList_getD news', show base + a.off + j - (base + a.off + n * i.size + 0) = j - n * i.size by omega]
                  exact (hnv _).mono hx, fun _ => by have := hc4 rfl; omega⟩)
            refine ⟨_, _, _, append_fit ht hu hd hi ty (some ⟨cb, base + a.off, none⟩) n c' k x' hl hf0 hroom (fun b hb => by injection hb with hb; subst hb; rw [addr_add]; exact hrun) (fun hx => by cases hx), ?_, hrg.1, hrg.2⟩
            refine .slice (Nat.le_refl _) ⟨hroom, .inr ⟨rfl, .at cb (base + a.off) (csz - a.off), by simp [Ren.set], fun _ _ _ ee => by injection ee with e1 e2 e3; exact ⟨e1, by simp only; omega⟩⟩, fun e' he => .inr fun cb2 b2 c2 hat => ?_, fun he => by cases he⟩
            injection he with he
            subst he
            simp only [Ren.set, if_true, Option.some.injEq] at hat
            injection hat with _ _ hcs
            show 0 + c' * i.size ≤ c2
            omega
          · have hk := hm.kill hbar
            refine grow r (killR r a.block) (m.kill a.block) w _ x' hm hs hl hf hk.1 hk.2 (MExt.kill hbar) rfl fun A' c2 he => ?_
            injection he with _ _ he
            omega

end
end Go.Ga
