/- A row of bytes whose head may be frozen (a builder's), pointers turned to unsafe ones, the library's functions without a body. -/
import Derived.Test.YtpnhedlciamegaaDoorSepI
set_option linter.all false
set_option linter.unnecessarySimpa false
set_option linter.deprecated false
set_option linter.unusedVariables false
set_option linter.unusedSimpArgs false
namespace Go.Proofs.Sep
open Go Go.RowKit

theorem ownsRowF_base {w : World} {B : Nat} {e : TypeId} {sz : Nat} {v : Value} {n : Nat} {xs : List Value} (h : w.ownsRowF B e sz v n xs) : w.ownsRowF 0 e sz v n xs := by
  refine ⟨h.1, ?_⟩
  rcases h.2 with hn | ⟨g, cap, cur, fz, rfl, hb, rest⟩
  · exact .inl hn
  · exact .inr ⟨g, cap, cur, fz, rfl, Nat.zero_le _, rest⟩
theorem ok_inj {α : Type} {a a' : α} {w w' : World} (h : (Result.ok a w : Result α) = .ok a' w') : a = a' ∧ w = w' := by cases h; exact ⟨rfl, rfl⟩
theorem strCells_byte (s : ByteArray) : Lib.strCells s = s.data.toList.map byte := rfl
theorem buf_form {w : World} {v : Value} {e : TypeId} {l : List UInt8} (h : (Res.buf v e l).holds w) : ∃ A cap, v = .slice A l.length cap ∧ l.length ≤ cap := by
  rcases h.2 with ⟨rfl, h0⟩ | ⟨g, cap, cur, fz, rfl, _, h1, _, h2, _⟩
  · exact ⟨none, 0, by rw [h0], by omega⟩
  · exact ⟨_, cap, rfl, h2⟩
theorem buf_len {w : World} {v : Value} {e : TypeId} {l : List UInt8} (h : (Res.buf v e l).holds w) : ∃ A cap, v = .slice A l.length cap ∧ l.length ≤ cap ∧ cap ≤ 9223372036854775807 := by
  rcases h.2 with ⟨rfl, h0⟩ | ⟨g, cap, cur, fz, rfl, _, h1, _, h2, h3, _⟩
  · exact ⟨none, 0, by rw [h0], by omega, by omega⟩
  · exact ⟨_, cap, rfl, h2, h3⟩

section
variable {P : Program} {ro : Option Nat} {n : Nat} {E : Env} {Q : SQ} {K : SK} {ds : List Deferred} {s : Sto} {os : List Res} {fs : List Frag}
variable {H : World → Prop} {d : Nat} {ty : TypeId} {p : String} {af : Array Edge} {g : Option (Nat × Bool)}

theorem St.nilBuf {w0 : World} {S : List Nat} {F0 : List Frag} {w : World} (h : St w0 S F0 w os fs) (e : TypeId) : St w0 S F0 w (.buf (.slice none 0 0) e [] :: os) fs := by
  refine ⟨h.keep, ?_, h.sub, ?_, ?_, h.orig⟩
  · intro r hr
    rcases List.mem_cons.1 hr with rfl | hr
    · exact World.ownsRowF_nil _ _ _ _
    · exact h.holds r hr
  · exact List.Pairwise.cons (fun r hr b hb => by simp [Res.foot, Value.ownBlock] at hb) h.apart
  · intro r hr b hb
    rcases List.mem_cons.1 hr with rfl | hr
    · simp [Res.foot, Value.ownBlock] at hb
    · exact h.away r hr b hb
theorem W.nilBuf {c : Code} (e : TypeId) (h : W P ro n E c Q ds s (.buf (.slice none 0 0) e [] :: os) fs) : W P ro n E c Q ds s os fs := W.upd fun w hs => ⟨_, _, hs.nilBuf e, h⟩
theorem WL.nilBuf {ops : Array Oper} {l : List Oper} (e : TypeId) (h : WL P ro n E ops Q l ds s (.buf (.slice none 0 0) e [] :: os) fs) : WL P ro n E ops Q l ds s os fs := WL.upd fun w hs => ⟨_, _, hs.nilBuf e, h⟩

/-! ### length, room -/
theorem y_lenB (i : Nat) {x : Operand} {t e e' : TypeId} {v : Value} {l : List UInt8} (hx : ev s x = some v) (hr : os[i]? = some (.buf v e l)) (ht : P.underlying t = some (.slice e')) : Y P (Hold os fs) s (.call ⟨.builtin .len, #[x], #[t]⟩) (.int .i64 (l.length : Int)) := fun o ρ w ho h hH => by
  obtain ⟨A, cap, rfl, _⟩ := buf_form (hH.1 _ (List.mem_of_getElem? hr))
  exact y_len (H := fun _ => True) hx ht o ρ w ho h trivial

/-! ### append -/
theorem run_appendS (w : World) {t u ty e : TypeId} (ht : P.underlying t = some (.slice e)) (hu : P.underlying u = some .string) (hz : zeroIs P e (.int .u8 0) 1 1) {v : Value} {l : List UInt8} (h : (Res.buf v e l).holds w) (a : List UInt8) (hb : l.length + a.length ≤ 140737488355328) :
    ∃ v' w', (Builtin.append_ #[t, u] ty #[v, str a]).run P w = .ok v' w' ∧ (Res.buf v' e (l ++ a)).holds w' ∧ w.grownBy w' v.ownBlock ∧ (∀ b, v'.ownBlock = some b → v.ownBlock = some b ∨ w.heap.size ≤ b) := by
  obtain ⟨i, hi, he⟩ := Option.map_eq_some_iff.1 hz
  simp only [Prod.mk.injEq] at he
  obtain ⟨he1, he2, he3⟩ := he
  have hsz : (⟨a.toArray⟩ : ByteArray).size = a.length := mk_size a
  have hm : maxLen = 9223372036854775807 := rfl
  have fin : ∀ {B : Nat} {v' : Value} {w' : World}, w'.ownsRowF B e 1 v' (l.length + (⟨a.toArray⟩ : ByteArray).size) (l.map byte ++ Lib.strCells ⟨a.toArray⟩) → (Res.buf v' e (l ++ a)).holds w' := fun h2 => by
    have h3 := ownsRowF_base h2
    rw [hsz, strCells_byte] at h3
    show World.ownsRowF _ 0 e 1 _ (l ++ a).length ((l ++ a).map byte)
    rw [List.length_append, List.map_append]
    exact h3
  rcases h.2 with ⟨rfl, h0⟩ | ⟨gb, cap, cur, fz, rfl, _, hg, hfz, hnc, hcm, hcs, htake⟩
  · obtain ⟨v', w', hr, h2, h3, _⟩ := Lib.run_append_own_stringF (P := P) w w.heap.size t u ty e i ht hu hi he1 he2 he3 (.slice none 0 0) l.length (l.map byte) ⟨h.1, .inl ⟨rfl, h0⟩⟩ ⟨a.toArray⟩ (by rw [hsz]; omega) (by rw [hsz]; exact hb) (Nat.le_refl _)
    exact ⟨v', w', hr, fin h2, h3, fun b hb' => .inr (h2.lt b hb').1⟩
  · obtain ⟨v', w', hr, h2, h3, _⟩ := Lib.run_append_own_stringF (P := P) w 0 t u ty e i ht hu hi he1 he2 he3 _ l.length (l.map byte) h ⟨a.toArray⟩ (by rw [hsz]; omega) (by rw [hsz]; exact hb) (Nat.zero_le _)
    refine ⟨v', w', hr, fin h2, h3, fun b hb' => ?_⟩
    by_cases hroom : l.length + (⟨a.toArray⟩ : ByteArray).size ≤ cap
    · have hcs' : cur.size = cap := by simpa using hcs
      have hr2 := Lib.run_append_room_stringF (P := P) w t u ty e i ht hu hi he2 gb l.length cap cur fz hg (by simpa using hfz) ⟨a.toArray⟩ hroom (by omega)
      rw [hr] at hr2
      obtain ⟨rfl, _⟩ := ok_inj hr2
      exact .inl hb'
    · have holds : ∀ j u, (l.map byte)[j]? = some u → w.cell? ((⟨gb, 0, none⟩ : Addr).add j) = some u := h.cells (g := gb) rfl
      have hr2 := Lib.run_append_grow_string (P := P) w t u ty e i (.int .u8 0) ht hu hi he1 ⟨gb, 0, none⟩ l.length cap (l.map byte) (by rw [he2]; simp) holds ⟨a.toArray⟩ (by omega) (by rw [hsz]; omega) (by rw [he3]; exact growslice_fits (by omega) (by rw [hsz]; omega))
      rw [hr] at hr2
      obtain ⟨rfl, _⟩ := ok_inj hr2
      simp [Value.ownBlock] at hb'
      right; omega
theorem o_appendS (i : Nat) {x y : Operand} {t u e : TypeId} {v : Value} {l a : List UInt8} (hx : ev s x = some v) (hy : ev s y = some (str a)) (hr : os[i]? = some (.buf v e l)) (ht : P.underlying t = some (.slice e)) (hu : P.underlying u = some .string) (hz : zeroIs P e (.int .u8 0) 1 1) (hb : l.length + a.length ≤ 140737488355328)
    (hk : ∀ v', v'.oneCell' = true → K ds ((d, v') :: s) (os.set i (.buf v' e (l ++ a))) fs) (hd : Nat.blt d n = true := by rfl) : OpS P ro n E Q ⟨some d, .call ⟨.builtin .append, #[x, y], #[t, u]⟩, ty, p, af, g⟩ K ds s os fs :=
  OpS.val (by simp) rfl hd fun w0 w r => by
    obtain ⟨v', w', hrun, hh, hgr, hf⟩ := run_appendS (P := P) w (ty := ty) ht hu hz (r.st.holds _ (List.mem_of_getElem? hr)) a hb
    refine ⟨v', w', os.set i (.buf v' e (l ++ a)), fs, ?_, ?_, hk v' (by obtain ⟨A, c, rfl, _⟩ := buf_form hh; rfl)⟩
    · simp [execOp, resolve, invoke, builtin, r.ag.eval hx, r.ag.eval hy, hrun]
    · exact r.st.turnAt hr (keep_grown hgr) (fun q hq => by simpa [Res.foot] using hq) hh (fun b hb' => hf b hb')
theorem run_appendB (w : World) {t ty e : TypeId} (ht : P.underlying t = some (.slice e)) (hz : zeroIs P e (.int .u8 0) 1 1) {v : Value} {l : List UInt8} (h : (Res.buf v e l).holds w) (a : List UInt8) (ad : Addr) (c : Nat) (hn : ∀ j u, (a.map byte)[j]? = some u → w.cell? (ad.add j) = some u) (hb : l.length + a.length ≤ 140737488355328) :
    ∃ v' w', (Builtin.append_ #[t, t] ty #[v, .slice (some ad) a.length c]).run P w = .ok v' w' ∧ (Res.buf v' e (l ++ a)).holds w' ∧ w.grownBy w' v.ownBlock ∧ (∀ b, v'.ownBlock = some b → v.ownBlock = some b ∨ w.heap.size ≤ b) := by
  obtain ⟨i, hi, he⟩ := Option.map_eq_some_iff.1 hz
  simp only [Prod.mk.injEq] at he
  obtain ⟨he1, he2, he3⟩ := he
  have hm : maxLen = 9223372036854775807 := rfl
  have h1 : ∀ u ∈ a.map byte, u.oneCell' = true := fun u hu => by
    obtain ⟨c, _, rfl⟩ := List.mem_map.1 hu
    rfl
  have fin : ∀ {B : Nat} {v' : Value} {w' : World}, w'.ownsRowF B e 1 v' (l.length + a.length) (l.map byte ++ a.map byte) → (Res.buf v' e (l ++ a)).holds w' := fun h2 => by
    have h3 := ownsRowF_base h2
    show World.ownsRowF _ 0 e 1 _ (l ++ a).length ((l ++ a).map byte)
    rw [List.length_append, List.map_append]
    exact h3
  rcases h.2 with ⟨rfl, h0⟩ | ⟨gb, cap, cur, fz, rfl, _, hg, hfz, hnc, hcm, hcs, htake⟩
  · obtain ⟨v', w', hr, h2, h3, _⟩ := run_append_ownF (P := P) w w.heap.size t ty e i (.int .u8 0) 1 1 ht hi he1 he2 he3 rfl (by omega) (.slice none 0 0) l.length (l.map byte) ⟨h.1, .inl ⟨rfl, h0⟩⟩ ad a.length c (a.map byte) (by simp) hn h1 (by omega) (by omega) (Nat.le_refl _)
    exact ⟨v', w', hr, fin h2, h3, fun b hb' => .inr (h2.lt b hb').1⟩
  · obtain ⟨v', w', hr, h2, h3, _⟩ := run_append_ownF (P := P) w 0 t ty e i (.int .u8 0) 1 1 ht hi he1 he2 he3 rfl (by omega) _ l.length (l.map byte) h ad a.length c (a.map byte) (by simp) hn h1 (by omega) (by omega) (Nat.zero_le _)
    refine ⟨v', w', hr, fin h2, h3, fun b hb' => ?_⟩
    by_cases hroom : l.length + a.length ≤ cap
    · have hcs' : cur.size = cap := by simpa using hcs
      have hr2 := run_append_roomF (P := P) w t ty e i ht hi gb l.length cap cur fz hg (by rw [he2]; simpa using hfz) ad a.length c (a.map byte) (by simp [he2]) hn h1 hroom (by simp [he2]; omega)
      rw [hr] at hr2
      obtain ⟨rfl, _⟩ := ok_inj hr2
      exact .inl hb'
    · have holds : ∀ j u, (l.map byte)[j]? = some u → w.cell? ((⟨gb, 0, none⟩ : Addr).add j) = some u := h.cells (g := gb) rfl
      have hr2 := run_append_grow (P := P) w t ty e i (.int .u8 0) ht hi he1 ⟨gb, 0, none⟩ l.length cap (l.map byte) (by rw [he2]; simp) holds ad a.length c (a.map byte) (by simp [he2]) hn (by omega) (by omega) (by rw [he3]; exact growslice_fits (by omega) (by omega))
      rw [hr] at hr2
      obtain ⟨rfl, _⟩ := ok_inj hr2
      simp [Value.ownBlock] at hb'
      right; omega
/-- What is appended is a row of bytes of one's own. -/
theorem o_appendB (i j : Nat) {x y : Operand} {t e e' : TypeId} {v u : Value} {l a : List UInt8} (hx : ev s x = some v) (hy : ev s y = some u) (hr : os[i]? = some (.buf v e l)) (hs : os[j]? = some (.row u e' 1 (a.map fun c => [byte c]))) (ha : 0 < a.length) (ht : P.underlying t = some (.slice e)) (hz : zeroIs P e (.int .u8 0) 1 1) (hb : l.length + a.length ≤ 140737488355328)
    (hk : ∀ v', v'.oneCell' = true → K ds ((d, v') :: s) (os.set i (.buf v' e (l ++ a))) fs) (hd : Nat.blt d n = true := by rfl) : OpS P ro n E Q ⟨some d, .call ⟨.builtin .append, #[x, y], #[t, t]⟩, ty, p, af, g⟩ K ds s os fs :=
  OpS.val (by simp) rfl hd fun w0 w r => by
    have h2 := r.st.holds _ (List.mem_of_getElem? hs)
    obtain ⟨gb, cap, cur, he, _⟩ := row_form h2 (by simpa using ha)
    subst he
    have hfl : ∀ a : List UInt8, (a.map fun c => [byte c]).flatten = a.map byte := fun a => by
      induction a with
      | nil => rfl
      | cons c r ih => rw [List.map_cons, List.flatten_cons, ih]; rfl
    have hn := h2.1.cells (g := gb) rfl
    rw [hfl] at hn
    rw [List.length_map] at hy
    obtain ⟨v', w', hrun, hh, hgr, hf⟩ := run_appendB (P := P) w (ty := ty) ht hz (r.st.holds _ (List.mem_of_getElem? hr)) a ⟨gb, 0, none⟩ cap hn hb
    refine ⟨v', w', os.set i (.buf v' e (l ++ a)), fs, ?_, ?_, hk v' (by obtain ⟨A, c, rfl, _⟩ := buf_form hh; rfl)⟩
    · simp [execOp, resolve, invoke, builtin, r.ag.eval hx, r.ag.eval hy, hrun]
    · exact r.st.turnAt hr (keep_grown hgr) (fun q hq => by simpa [Res.foot] using hq) hh (fun b hb' => hf b hb')

/-! ### the string that shares the bytes -/
/-- What unsafe.SliceData tells of a buffer. -/
def DataOf (v u : Value) (l : List UInt8) : Prop := ∃ A, u = .pointer A ∧ (l ≠ [] → ∃ gb cap, v = .slice (some ⟨gb, 0, none⟩) l.length cap ∧ A = some ⟨gb, 0, none⟩)
theorem o_sliceData (i : Nat) {x : Operand} {t te e : TypeId} {v : Value} {l : List UInt8} (hx : ev s x = some v) (hr : os[i]? = some (.buf v e l)) (hp : P.underlying ty = some (.pointer te)) (hk : ∀ u, DataOf v u l → K ds ((d, u) :: s) os fs) (hd : Nat.blt d n = true := by rfl) :
    OpS P ro n E Q ⟨some d, .call ⟨.builtin .unsafeSliceData, #[x], #[t]⟩, ty, p, af, g⟩ K ds s os fs :=
  OpS.val (by simp) rfl hd fun w0 w r => by
    have hh := r.st.holds _ (List.mem_of_getElem? hr)
    have run : ∀ {u : Value} {w' : World}, (Builtin.unsafeSliceData_ #[t] ty #[v]).run P w = .ok u w' → (execOp w0.eval ⟨some d, .call ⟨.builtin .unsafeSliceData, #[x], #[t]⟩, ty, p, af, g⟩).run P w = .ok (.value u) w' := fun h => by
      simp [execOp, resolve, invoke, builtin, r.ag.eval hx, h]
    rcases hh.2 with ⟨rfl, h0⟩ | ⟨gb, cap, cur, fz, rfl, _, hg, _⟩
    · exact ⟨_, w, os, fs, run (Lib.run_unsafeSliceData_nil w _ _ _ _), r.st, hk _ ⟨none, rfl, fun h => absurd (List.eq_nil_of_length_eq_zero h0) h⟩⟩
    · by_cases hc : cap = 0
      · subst hc
        have hl : l = [] := List.eq_nil_of_length_eq_zero (by have := buf_form hh; obtain ⟨A, c, e, h⟩ := this; cases e; omega)
        refine ⟨_, _, os, fs, run (Lib.run_unsafeSliceData_zero w _ ty te hp ⟨gb, 0, none⟩ l.length (e, cur.size) (by simp [World.shape?, hg])), r.st.same (keep_alloc w _), hk _ ⟨_, rfl, fun h => absurd hl h⟩⟩
      · exact ⟨_, w, os, fs, run (Lib.run_unsafeSliceData_row w _ _ _ _ _ hc), r.st, hk _ ⟨_, rfl, fun _ => ⟨gb, cap, rfl, rfl⟩⟩⟩
theorem keep_freeze (w : World) (gb k : Nat) : Keep [gb] w (w.freeze ⟨gb, 0, none⟩ k) := by
  unfold World.freeze
  split
  · exact Keep.refl _ _
  · exact ⟨rfl, rfl, rfl, by simp, fun i hi hn => by
      simp only [Array.getElem?_modify]
      rw [if_neg (fun e => hn (by simp [e]))]⟩
theorem buf_froze {w : World} {gb cap : Nat} {e : TypeId} {l : List UInt8} (h : (Res.buf (.slice (some ⟨gb, 0, none⟩) l.length cap) e l).holds w) : (Res.buf (.slice (some ⟨gb, 0, none⟩) l.length cap) e l).holds (w.freeze ⟨gb, 0, none⟩ l.length) := by
  unfold World.freeze
  split
  · exact h
  · refine ⟨h.1, ?_⟩
    rcases h.2 with ⟨hv, _⟩ | ⟨g', cap', cur, fz, hv, hbg, hg, hfz, rest⟩
    · cases hv
    · injection hv with ha _ hcap
      injection ha with ha
      injection ha with hgg _ _
      subst hgg
      subst hcap
      obtain ⟨lo, hi⟩ := fz
      refine .inr ⟨gb, _, cur, (if lo == hi then (0, 0 + l.length) else (min lo 0, max hi (0 + l.length))), rfl, hbg, ?_, ?_, rest⟩
      · simp [Array.getElem?_modify, hg]
      · simp only at hfz
        split <;> simp <;> omega
theorem o_ustring (i : Nat) {x y : Operand} {t1 t2 e : TypeId} {v u : Value} {l : List UInt8} (hx : ev s x = some u) (hy : ev s y = some (.int .i64 (l.length : Int))) (hu : DataOf v u l) (hr : os[i]? = some (.buf v e l)) (hp : P.underlying t1 = some (.pointer e)) (hc : P.cellsOf e = 1)
    (hk : K ds ((d, str l) :: s) os fs) (hd : Nat.blt d n = true := by rfl) : OpS P ro n E Q ⟨some d, .call ⟨.builtin .unsafeString, #[x, y], #[t1, t2]⟩, ty, p, af, g⟩ K ds s os fs :=
  OpS.val (by simp) rfl hd fun w0 w r => by
    have hh := r.st.holds _ (List.mem_of_getElem? hr)
    obtain ⟨A, cap0, hv0, hle, hlm⟩ := buf_len hh
    obtain ⟨A, rfl, hA⟩ := hu
    have run : ∀ {u : Value} {w' : World}, (Builtin.unsafeString_ #[t1, t2] ty #[.pointer A, .int .i64 (l.length : Int)]).run P w = .ok u w' → (execOp w0.eval ⟨some d, .call ⟨.builtin .unsafeString, #[x, y], #[t1, t2]⟩, ty, p, af, g⟩).run P w = .ok (.value u) w' := fun h => by
      simp [execOp, resolve, invoke, builtin, r.ag.eval hx, r.ag.eval hy, h]
    by_cases h0 : l = []
    · subst h0
      exact ⟨str [], w, os, fs, run (Lib.run_unsafeString_none w _ _ _ _), r.st, hk⟩
    · obtain ⟨gb, cap, rfl, rfl⟩ := hA h0
      rcases hh.2 with ⟨hv, _⟩ | ⟨g', cap', cur, fz, hv, _, hg, hfz, hn, hm, hcs, ht⟩
      · cases hv
      · have hcells : ∀ j c, l[j]? = some c → w.cell? ((⟨gb, 0, none⟩ : Addr).add j) = some (.int .u8 c.toNat) := fun j c hj => hh.cells (g := gb) rfl j _ (by simp [hj, byte])
        injection hv with ha _ hcap
        injection ha with ha
        injection ha with hgg _ _
        subst hgg
        subst hcap
        refine ⟨str l, _, os, fs, run (Lib.run_unsafeString_row w t1 t2 ty e hp hc gb cur.size (by simp [World.shape?, hg]) l h0 (by simp at hcs; omega) (by omega) hcells), ?_, hk⟩
        have := r.st.turnAt hr (keep_freeze w gb l.length) (by simp [Res.foot, Value.ownBlock]) (buf_froze hh) (fun b hb => .inl hb)
        rwa [set_same hr] at this

/-! ### pointers turned to unsafe ones, and back -/
theorem y_toUnsafe (i : Nat) {x : Operand} {src dst t te : TypeId} {b k : Nat} {cs : List Value} (hx : ev s x = some (.pointer (some ⟨b, 0, none⟩))) (hr : os[i]? = some (cel b te cs)) (hc : 0 < cs.length) (hs : P.underlying src = some (.pointer t)) (hd : P.underlying dst = some .unsafePointer) (ht : sizeIs P t (k + 1) = true) :
    Y P (Hold os fs) s (.convert src dst x) (.pointer (some ⟨b, 0, none⟩)) := fun o ρ w ho h hH => by
  have hh : w.heap[b]? = some (.cells cs.toArray te (0, 0)) := hH.1 _ (List.mem_of_getElem? hr)
  unfold sizeIs at ht
  rw [beq_iff_eq] at ht
  obtain ⟨j, hj, hjs⟩ := Option.map_eq_some_iff.1 ht
  have := Lib.run_to_unsafe (P := P) w (e := te) (cells := cs.length) ⟨b, 0, none⟩ hs hd hj (by omega) (by simp [World.shape?, hh]) hc
  simp [execOp, ho, h x _ hx, Sem.run_bind, this]
theorem y_fromUnsafe (i : Nat) {x : Operand} {src dst u te : TypeId} {b k : Nat} {cs : List Value} (hx : ev s x = some (.pointer (some ⟨b, 0, none⟩))) (hr : os[i]? = some (cel b te cs)) (hs : P.underlying src = some .unsafePointer) (hd : P.underlying dst = some (.pointer u)) (hu : sizeIs P u k = true) (hl : liesAt P P.depth te (cs.length / P.cellsOf te) 0 u 1 = true) :
    Y P (Hold os fs) s (.convert src dst x) (.pointer (some ⟨b, 0, none⟩)) := fun o ρ w ho h hH => by
  have hh : w.heap[b]? = some (.cells cs.toArray te (0, 0)) := hH.1 _ (List.mem_of_getElem? hr)
  unfold sizeIs at hu
  rw [beq_iff_eq] at hu
  obtain ⟨j, hj, hjs⟩ := Option.map_eq_some_iff.1 hu
  have := Lib.run_from_unsafe (P := P) w (e := te) (cells := cs.length) ⟨b, 0, none⟩ hs hd hj (by simp [World.shape?, hh]) hl
  simp [execOp, ho, h x _ hx, Sem.run_bind, this]
end
end Go.Proofs.Sep
