/- Each operation of the machine does what its resolved form says: copy, make, conversions. -/
import Derived.Test.YtndikkpmlofebaaGaOps4
import Derived.Laws.BytesArg
namespace Go.Ga
open Go

section
variable {P : Program} {r : Ren} {m : Mem} {w : World} {f : Regs}

theorem lenOf_ok {A : Option Addr} {n c : Nat} {v' : Value} (h : VR r (.slice A n c) v') (w : World) : (Builtin.lenOf v').run P w = .ok n w := by
  cases h <;> rfl

theorem copy_run {t u e : TypeId} {i : TypeInfo} (ht : P.underlying t = some (.slice e)) (hi : P.info? e = some i) (ty : TypeId) (A' : Option Addr) (n c' k : Nat) (x' : Value)
    (hl : (Builtin.lenOf x').run P w = .ok k w) {cs : Array Value} (hf : (Builtin.firstCells i.size (Nat.min k n) x').run P w = .ok cs w) {w' : World} (hst : ∀ a, A' = some a → (storeCells a cs.toList).run P w = .ok () w') (hn : A' = none → w' = w) :
    (Builtin.copy_ #[t, u] ty #[.slice A' n c', x']).run P w = .ok (.int .i64 (Nat.min k n : Nat)) w' := by
  cases A' with
  | none =>
    rw [hn rfl]
    simp only [Builtin.copy_, run_underlying ht, sizeOf, typeInfo, hi, hl, hf, goInt, Sem.run_bind, Sem.run_pure, Result.andThen_ok, run_program, List.getElem?_toArray, List.getElem?_cons_zero, List.getElem?_cons_succ]
  | some a =>
    have h := hst a rfl
    simp only [Builtin.copy_, run_underlying ht, sizeOf, typeInfo, hi, hl, hf, h, goInt, Sem.run_bind, Sem.run_pure, Result.andThen_ok, run_program, List.getElem?_toArray, List.getElem?_cons_zero, List.getElem?_cons_succ]

/-- 'copy', the cells known. -/
theorem copy_ok {t u e : TypeId} {i : TypeInfo} (ht : P.underlying t = some (.slice e)) (hi : P.info? e = some i) (ty : TypeId) {A : Option Addr} {n c k : Nat} {news : List Value}
    {a0 : Addr} (hA : A = some a0) {l : List Value} (hg : m.get a0.block = some (.cells l false)) (hbar : m.bar ≤ a0.block) (hlen : a0.off + 0 + news.length ≤ l.length) (h1 : ∀ v ∈ news, cellVal v = true) (hpos : Nat.min k n * i.size ≠ 0)
    (hm : MemRel r m w) {s' x' : Value} (hs : VR r (.slice A n c) s') (hl : (Builtin.lenOf x').run P w = .ok k w)
    (hf : ∃ news' : Array Value, (Builtin.firstCells i.size (Nat.min k n) x').run P w = .ok news' w ∧ news'.size = news.length ∧ ∀ j, VR r (news.getD j undef) (news'.getD j undef)) :
    StepOK P (Builtin.copy_ #[t, u] ty #[s', x']) r m w (fun r' v' => VR r' (.int .i64 (Nat.min k n : Nat)) v') (m.put a0.block (.cells (splice l (a0.off + 0) news) false)) := by
  subst hA
  obtain ⟨a', c', rfl, hnc, hsr⟩ := hs.slice_inv
  obtain ⟨news', hf, hsz, hnv⟩ := hf
  have ha : AR r a0.block a0.off a' := hsr.loc.resolve_left (by
    intro h0
    have hle := hsr.le
    have h2 : n = 0 := by omega
    apply hpos
    rw [h2]
    simp)
  obtain ⟨w', hrun, hm', hfr⟩ := storeCells_ok (P := P) hm ha hg hbar news news'.toList hlen (by simpa using hsz) (fun j _ => by rw [toList_getD news']; exact hnv j) h1
  exact ⟨r, _, w', copy_run ht hi ty (some a') n c' k x' hl hf (fun b hb => by injection hb with hb; subst hb; exact hrun) (fun hx => by cases hx), .int _ _, by simpa using hm', hfr⟩

theorem copy_none {t u e : TypeId} {i : TypeInfo} (ht : P.underlying t = some (.slice e)) (hi : P.info? e = some i) (ty : TypeId) {A : Option Addr} {n c k : Nat} (hz : A = none ∨ Nat.min k n * i.size = 0)
    (hm : MemRel r m w) {s' x' : Value} (hs : VR r (.slice A n c) s') (hl : (Builtin.lenOf x').run P w = .ok k w)
    (hf : ∃ news' : Array Value, (Builtin.firstCells i.size (Nat.min k n) x').run P w = .ok news' w ∧ news'.size = Nat.min k n * i.size) :
    StepOK P (Builtin.copy_ #[t, u] ty #[s', x']) r m w (fun r' v' => VR r' (.int .i64 (Nat.min k n : Nat)) v') m := by
  obtain ⟨news', hf, hsz⟩ := hf
  refine .pure hm (v' := .int .i64 (Nat.min k n : Nat)) ?_ (.int _ _)
  cases A with
  | none =>
    obtain ⟨h1, h2, rfl⟩ := hs.slice_nil
    subst h1
    exact copy_run ht hi ty none 0 _ k x' hl hf (fun b hb => by cases hb) (fun _ => rfl)
  | some a =>
    obtain ⟨a', c', rfl, hnc, hsr⟩ := hs.slice_inv
    have hz' := hz.resolve_left (by simp)
    have hn' : news'.toList = [] := by
      apply List.eq_nil_of_length_eq_zero
      simp [hsz, hz']
    exact copy_run ht hi ty (some a') n c' k x' hl hf (fun b _ => by rw [hn']; rfl) (fun hx => by cases hx)

theorem wrap_i64_id {n : Int} (h1 : 0 ≤ n) (h2 : n ≤ 9223372036854775807) : IntKind.i64.wrap n = n := by
  rw [IntKind.wrap_i64]
  omega

/-- 'make'. -/
theorem make_ok (hm : MemRel r m w) {t e : TypeId} {i : TypeInfo} {z : Value} (ht : P.underlying t = some (.slice e)) (hi : P.info? e = some i) (hz : i.zero = some z) (hp : z.cells.toList.all plain = true) {kl kc : IntKind} {l c : Int}
    (h1 : 0 ≤ l) (h2 : l ≤ c) (h3 : (i.bytes : Int) * c ≤ 281474976710656) (h4 : c ≤ 9223372036854775807) (hne : z.cells.toList ≠ []) :
    StepOK P (Instr.makeSlice t (.int kl l) (.int kc c)) r m w (fun r' v' => VR r' (.slice (some ⟨m.next, 0, none⟩) l.toNat c.toNat) v')
      (m.add (.cells ((List.range (c.toNat * i.size)).map fun j => z.cells.toList.getD (j % z.cells.toList.length) undef) false)) := by
  have hw1 := wrap_i64_id (n := l) h1 (by omega)
  have hw2 := wrap_i64_id (n := c) (by omega) h4
  have hz0 : 0 < z.cells.size := by
    rcases Nat.eq_zero_or_pos z.cells.size with h | h
    · exact absurd (List.eq_nil_of_length_eq_zero (by simpa using h)) hne
    · exact h
  let zero : Array Value := if c.toNat * i.size = 0 then #[] else z.cells
  have hcell : ∀ j, j < c.toNat * i.size → ((Array.range (c.toNat * i.size)).map (zero[· % zero.size]!)).getD j undef = z.cells.toList.getD (j % z.cells.toList.length) undef := by
    intro j hj
    have hzz : zero = z.cells := by simp only [zero]; rw [if_neg (by omega)]
    have hlt : j % z.cells.size < z.cells.size := Nat.mod_lt _ hz0
    rw [toList_getD]
    simp [Array.getD, hj, hzz, hlt]
  obtain ⟨r', w', hrun, g1, g2, g3⟩ := newRow_step (P := P) hm e ((List.range (c.toNat * i.size)).map fun j => z.cells.toList.getD (j % z.cells.toList.length) undef) ((Array.range (c.toNat * i.size)).map (zero[· % zero.size]!)) (by simp) (fun j hj => by
    have hj' : j < c.toNat * i.size := by simpa using hj
    rw [hcell j hj']
    have : ((List.range (c.toNat * i.size)).map fun j => z.cells.toList.getD (j % z.cells.toList.length) undef).getD j undef = z.cells.toList.getD (j % z.cells.toList.length) undef := by
      simp [List.getD_eq_getElem?_getD, hj']
    rw [this]
    have hlt : j % z.cells.toList.length < z.cells.toList.length := Nat.mod_lt _ (by simpa using hz0)
    simp only [List.all_eq_true] at hp
    refine VR.of_plain (hp _ ?_)
    simp only [List.getD_eq_getElem?_getD, List.getElem?_eq_getElem hlt, Option.getD_some]
    exact List.getElem_mem _)
  refine ⟨r', .slice (some ⟨w.heap.size, 0, none⟩) l.toNat c.toNat, w', ?_, ?_, g1, g2⟩
  · have hb : ¬ (281474976710656 < (i.bytes : Int) * c) := by omega
    have hc0 : ¬ (c < 0) := by omega
    have hl0 : ¬ (l < 0) := by omega
    have hlc : ¬ (c < l) := by omega
    have hrun' : ∀ (x : Array Value), x = zero → (newRow e ((Array.range (c.toNat * i.size)).map (x[· % x.size]!))).run P w = .ok ⟨w.heap.size, 0, none⟩ w' := by
      intro x hx; rw [hx]; exact hrun
    by_cases hn0 : c.toNat * i.size = 0
    · have := hrun' #[] (by simp [zero, hn0])
      simp only [hn0] at this
      simp at this
      simp [Instr.makeSlice, run_underlying ht, asInt, asIntOf, typeInfo, sizeOf, hi, hw1, hw2, hb, hc0, hl0, hlc, hn0, this]
    · have := hrun' z.cells (by simp [zero, hn0])
      simp [Instr.makeSlice, run_underlying ht, asInt, asIntOf, typeInfo, sizeOf, zeroValue, hi, hz, hw1, hw2, hb, hc0, hl0, hlc, hn0, this]
  · exact .slice (by omega) ⟨Nat.le_refl _, .inr ⟨rfl, _, g3, fun _ _ _ ee => by injection ee with e1 e2 e3; exact ⟨e1, by simp only; omega⟩⟩, (fun e he => nomatch he), fun _ => rfl⟩

theorem shape_of {cb : Nat} {c : Array Value} {e : TypeId} {fr : Nat × Nat} (h : w.heap[cb]? = some (.cells c e fr)) : w.shape? cb = some (e, c.size) := by simp [World.shape?, h]

theorem u8V_getD (s : List UInt8) (j : Nat) (h : j < s.length) : (s.map u8V).getD j undef = u8V s[j] := by
  simp [List.getD_eq_getElem?_getD, List.getElem?_eq_getElem h]

theorem VR.u8 (b : UInt8) : VR r (u8V b) (.int .u8 b.toNat) := .int _ _

/-- A string as bytes. -/
theorem s2b_ok (hm : MemRel r m w) (e : TypeId) (s : ByteArray) :
    StepOK P (Conv.stringToBytes e s) r m w (fun r' v' => VR r' (.slice (some ⟨m.next, 0, some 1⟩) s.size s.size) v') (m.add (.cells (s.data.toList.map u8V) false)) := by
  have hge := grownCap_ge' w s.size 0 e
  let cells : Array Value := (s.data.map fun b => Value.int .u8 b.toNat) ++ Array.replicate (grownCap w s.size 0 e - s.size) (.int .u8 0)
  have hsz : cells.size = grownCap w s.size 0 e := by
    have : s.data.size = s.size := rfl
    simp only [cells, Array.size_append, Array.size_map, Array.size_replicate, this]
    omega
  obtain ⟨r', g1, g2, g3⟩ := newRow_ok hm e (s.data.toList.map u8V) cells (by rw [hsz]; have : s.data.size = s.size := rfl; simp [this]; exact hge) (fun j hj => by
    have hj' : j < s.data.size := by simpa using hj
    rw [u8V_getD _ _ (by simpa using hj')]
    have hlt : j < (s.data.map fun b => Value.int .u8 b.toNat).size := by simpa using hj'
    simp only [cells]
    rw [aappend_getD, if_pos hlt]
    have : (s.data.map fun b => Value.int .u8 (b.toNat : Int)).getD j undef = .int .u8 (s.data[j].toNat : Int) := by
      simp only [Array.getD, Array.size_map, hj', dite_true]
      simp
    rw [this]
    simpa using VR.u8 s.data[j]) (w.drawn + 1)
  obtain ⟨f1, f2⟩ := freeze_ok g1 (n := m.next) g3 (by exact hm.wf) (l := s.data.toList.map u8V) (by simp [Mem.add, Mem.set]) cells.size (fun c e' fr h => by
    have : (w.heap.push (.cells cells e))[w.heap.size]? = some (.cells cells e) := by simp
    rw [this] at h
    injection h with h; injection h with h _ _
    rw [h]
    exact Nat.le_refl _)
  refine ⟨r', .slice (some ⟨w.heap.size, 0, none⟩) s.size (grownCap w s.size 0 e), _, ?_, ?_, f1, g2.trans (MExt.add hm.wf _) f2⟩
  · have hsh : (w.drew.alloc (.cells cells e)).shape? w.heap.size = some (e, cells.size) := shape_of (fr := (0, 0)) (by show (w.heap.push (Obj.cells cells e))[w.heap.size]? = _; simp)
    have : ({ w with heap := w.heap.push (.cells cells e), drawn := w.drawn + 1 } : World) = w.drew.alloc (.cells cells e) := rfl
    rw [this]
    have hrow : (newRow e cells).run P w.drew = .ok ⟨w.heap.size, 0, none⟩ (w.drew.alloc (.cells cells e)) := by
      simp only [newRow, Sem.run_bind, run_newObj, Result.andThen_ok, Sem.run_pure]
      rfl
    have hch : (choose (.appendCap s.size 0 e)).run P w = .ok (grownCap w s.size 0 e) w.drew := by
      rw [run_choose]
      rfl
    simp only [Conv.stringToBytes, Sem.run_bind, hch, Result.andThen_ok]
    have hcells : ((s.data.map fun b => Value.int .u8 (b.toNat : Int)) ++ Array.replicate (grownCap w s.size 0 e - s.size) (.int .u8 0)) = cells := rfl
    rw [hcells, hrow]
    simp only [Result.andThen_ok, markStringish, Sem.run_bind, run_shape, hsh, run_freeze, Sem.run_pure]
  · refine .slice (Nat.le_refl _) ⟨hge, .inr ⟨rfl, _, g3, fun _ _ _ ee => by injection ee with e1 e2 e3; exact ⟨e1, by simp only; omega⟩⟩, fun e' he => .inr fun cb base csz hat => ?_, fun he => by cases he⟩
    injection he with he
    subst he
    simp only at hat
    rw [g3] at hat
    injection hat with hat
    injection hat with _ _ hcs
    rw [← hcs, hsz]
    simp

theorem cvB_ok (hm : MemRel r m w) {a : Addr} {n c : Nat} {x' : Value} (hx : VR r (.slice (some a) n c) x') {l : List Value} (hg : m.get a.block = some (.cells l false)) (hbar : m.bar ≤ a.block) (hc : 0 < c) :
    ∃ w' a' c', x' = .slice (some a') n c' ∧ (markStringish a').run P w = .ok () w' ∧ MemRel r m w' ∧ Fr r r m w w' := by
  obtain ⟨a', c', rfl, hnc, hsr⟩ := hx.slice_inv
  have ha : AR r a.block a.off a' := hsr.loc.resolve_left (by have := hsr.le; omega)
  obtain ⟨cb, base, csz, hn, rfl⟩ := ha.live hm hg
  obtain ⟨cc, ce, fr, hh, _⟩ := live_cells hm hn hg
  obtain ⟨h1, h2⟩ := freeze_ok hm hn hbar hg cc.size (fun c2 e2 fr2 h => by rw [hh] at h; injection h with h; injection h with h _ _; rw [h]; exact Nat.le_refl _)
  exact ⟨_, _, _, rfl, by simp only [markStringish, Sem.run_bind, run_shape, shape_of hh, Result.andThen_ok, run_freeze], h1, h2⟩

theorem bytesOf_spec : ∀ {l : List Value} {bs : List UInt8}, bytesOf l = some bs → ∃ ns : List Int, l = ns.map (Value.int .u8) ∧ bs = ns.map (fun n => UInt8.ofNat n.toNat)
  | [], bs, h => by
    simp only [bytesOf, Option.some.injEq] at h
    exact ⟨[], rfl, h.symm⟩
  | v :: l, bs, h => by
    simp only [bytesOf] at h
    split at h
    · rename_i b bs2 hb hbs
      simp only [Option.some.injEq] at h
      obtain ⟨ns, rfl, rfl⟩ := bytesOf_spec hbs
      unfold byteOf at hb
      split at hb
      · rename_i n
        simp only [Option.some.injEq] at hb
        exact ⟨n :: ns, rfl, by rw [← h, ← hb]; rfl⟩
      · cases hb
    · cases h

/-- Bytes as a string. -/
theorem b2s_ok (hm : MemRel r m w) {A : Option Addr} {n c : Nat} {x' : Value} (hx : VR r (.slice A n c) x') {l : List Value} (hl : rowOf m A n = some l) {bs : List UInt8} (hb : bytesOf l = some bs) :
    (Conv.bytesToString x').run P w = .ok (.string ⟨bs.toArray⟩) w := by
  obtain ⟨ns, rfl, rfl⟩ := bytesOf_spec hb
  obtain ⟨cs, hrun, hsz, hln, hv⟩ := firstCells_ok (P := P) (esz := 1) hm hx (Nat.le_refl n) (by simpa using hl) w.drawn
  cases A with
  | none =>
    obtain ⟨h1, h2, rfl⟩ := hx.slice_nil
    subst h1
    have : ns = [] := List.eq_nil_of_length_eq_zero (by simpa using hln)
    subst this
    simp [Conv.bytesToString]
    rfl
  | some a =>
    obtain ⟨a', c', rfl, hnc, hsr⟩ := hx.slice_inv
    have hcs : cs = (ns.map (Value.int .u8)).toArray := by
      apply Array.ext
      · simpa using hsz
      · intro i h1 h2
        have h3 := hv i
        have hi : i < ns.length := by simpa using h2
        have e1 : (ns.map (Value.int .u8)).getD i undef = .int .u8 ns[i] := by simp [List.getD_eq_getElem?_getD, List.getElem?_eq_getElem hi]
        have e2 : cs.getD i undef = cs[i] := by simp [Array.getD, h1]
        rw [e1, e2] at h3
        rw [h3.int_inv]
        simp
    have hload : (loadCells a' n).run P w = .ok (ns.map (Value.int .u8)).toArray w := by
      have : (Builtin.firstCells 1 n (.slice (some a') n c')) = loadCells a' n := by simp [Builtin.firstCells]
      rw [this, hcs] at hrun
      exact hrun
    rw [run_bytesToString w a' n c' ns hload, foldl_push_bytes]
    simp [ByteArray.empty, ByteArray.emptyWithCapacity]
    rfl

end
end Go.Ga
