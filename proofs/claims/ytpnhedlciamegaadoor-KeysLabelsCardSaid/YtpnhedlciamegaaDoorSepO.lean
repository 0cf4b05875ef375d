/- Appending rooms, copies of elements, slices that overlap, maps that are read, structs that are compared. -/
import Derived.Test.YtpnhedlciamegaaDoorSepN
import Derived.Lib.AppendZerosOnto
import Derived.Lib.Overlaps
set_option linter.all false
set_option linter.unnecessarySimpa false
set_option linter.deprecated false
set_option linter.unusedVariables false
set_option linter.unusedSimpArgs false
namespace Go.Proofs.Sep
open Go Go.RowKit
section
variable {P : Program} {ro : Option Nat} {n : Nat} {E : Env} {Q : SQ} {K : SK} {ds : List Deferred} {s : Sto} {os : List Res} {fs : List Frag}
variable {H : World → Prop} {d : Nat} {ty : TypeId} {p : String} {af : Array Edge} {g : Option (Nat × Bool)}

theorem keep_drew (w : World) : Keep [] w w.drew := ⟨rfl, rfl, rfl, Nat.le_refl _, fun _ _ _ => rfl⟩
theorem size_zeroCells' (z : Array Value) (n : Nat) : (Builtin.zeroCells z n).size = n * z.size := by simp [Builtin.zeroCells]
/-- append(x, make([]T, m)...) where there is no room. -/
theorem o_appendZ {x y : Operand} {t tn e : TypeId} {sz by_ : Nat} {z : Value} {A : Option Addr} {l c m : Nat} {kn kq : IntKind} (olds : List Value) (hx : ev s x = some (.slice A l c)) (hy : ev s y = some (.int kq (m : Int)))
    (ht : P.underlying t = some (.slice e)) (htn : P.underlying tn = some (.int kn)) (hz : zeroIs P e z sz by_) (hzs : z.cells.size = sz) (hsz : 0 < sz) (hol : olds.length = l * sz)
    (hold : ∀ w, St E.w0 E.S E.F0 w os fs → (A = none → l = 0) ∧ ∀ a, A = some a → ∀ j v, olds[j]? = some v → w.cell? (a.add j) = some v) (h0 : 0 < m) (hg : c < l + m) (hby : 0 < by_) (hb : (l + m) * by_ ≤ 140737488355328)
    (hk : ∀ gb cap tail, gb ∉ E.S → l + m ≤ cap → cap ≤ maxLen → tail.length = (cap - l) * sz → K ds ((d, .slice (some ⟨gb, 0, none⟩) (l + m) cap) :: s) (cel gb e (olds ++ tail) :: os) fs) (hd : Nat.blt d n = true := by rfl) (hS : ∀ b ∈ E.S, b < E.w0.heap.size := by first | assumption | simp [foots]) :
    OpS P ro n E Q ⟨some d, .call ⟨.builtin .append, #[x, y], #[t, tn]⟩, ty, p, af, g⟩ K ds s os fs :=
  OpS.val (by simp) rfl hd fun a w r => by
    obtain ⟨i0, hi, he⟩ := Option.map_eq_some_iff.1 hz
    simp only [Prod.mk.injEq] at he
    obtain ⟨he1, he2, he3⟩ := he
    subst he2
    subst he3
    obtain ⟨hn0, hcells⟩ := hold w r.st
    have hf : (Builtin.firstCells i0.size l (.slice A l c)).run P w.drew = .ok olds.toArray w.drew := by
      cases A with
      | none =>
        have h1 : olds = [] := List.eq_nil_of_length_eq_zero (by rw [hol, hn0 rfl, Nat.zero_mul])
        subst h1
        rfl
      | some ad =>
        have := run_loadCells_list (P := P) w.drew ad olds (fun j v hj => hcells ad rfl j v hj)
        rw [hol] at this
        exact this
    have h1 : (l + m) * 1 ≤ (l + m) * i0.bytes := Nat.mul_le_mul_left _ hby
    have h2 : m * i0.bytes ≤ (l + m) * i0.bytes := Nat.mul_le_mul_right _ (by omega)
    have h3 := nextslicecap_le hg
    have h4 : Builtin.nextslicecap (l + m) c * i0.bytes ≤ 2 * (l + m) * i0.bytes := Nat.mul_le_mul_right _ h3
    rw [Nat.mul_assoc] at h4
    have hmax : maxLen = 9223372036854775807 := rfl
    have hrun := Lib.run_append_grow_zeros (P := P) w t tn ty e i0 z kq kn ht htn hi he1 A l c olds hf m h0 hsz hg (by omega) (by omega) (by omega)
    have hst := (r.st.same (keep_drew w)).alloc (.cells (olds.toArray ++ Builtin.zeroCells z.cells m ++ Builtin.zeroCells z.cells (grownCap w (l + m) c e - (l + m))) e)
    have hge := grownCap_ge w (l + m) c e
    have hcm : grownCap w (l + m) c e ≤ maxLen := grownCap_le_maxLen w (l + m) c e (by omega)
    generalize grownCap w (l + m) c e = cap at *
    have hE := r.st.keep.size
    have e1 : olds.toArray ++ Builtin.zeroCells z.cells m ++ Builtin.zeroCells z.cells (cap - (l + m)) = (olds ++ (Builtin.zeroCells z.cells m ++ Builtin.zeroCells z.cells (cap - (l + m))).toList).toArray := by
      apply Array.ext'
      simp
    rw [e1] at hst hrun
    refine ⟨.slice (some ⟨w.heap.size, 0, none⟩) (l + m) cap, _, cel w.heap.size e (olds ++ (Builtin.zeroCells z.cells m ++ Builtin.zeroCells z.cells (cap - (l + m))).toList) :: os, fs, ?_, hst, ?_⟩
    · simp only [execOp, resolve, invoke, builtin, Sem.run_bind, Sem.run_pure, Result.andThen_ok, List.map_toArray, List.map_cons, List.map_nil, r.ag.eval hx, r.ag.eval hy, hrun]
    · exact hk w.heap.size cap ((Builtin.zeroCells z.cells m ++ Builtin.zeroCells z.cells (cap - (l + m))).toList) (fun hm => by have := hS _ hm; omega) hge hcm (by
        rw [Array.length_toList, Array.size_append, size_zeroCells', size_zeroCells', hzs, ← Nat.add_mul]
        congr 1
        omega)
/-- From one block of cells to one (or the same). -/
theorem o_copyC (i j : Nat) {x y : Operand} {t t2 e te te2 : TypeId} {sz b b2 o1 o2 l1 l2 c1 c2 : Nat} {cs cs2 : List Value} (vs : List Value) (hx : ev s x = some (.slice (some ⟨b, o1, none⟩) l1 c1)) (hy : ev s y = some (.slice (some ⟨b2, o2, none⟩) l2 c2)) (hr : os[i]? = some (cel b te cs)) (hr2 : os[j]? = some (cel b2 te2 cs2))
    (ht : P.underlying t = some (.slice e)) (hs : sizeIs P e sz = true) (hvs : (cs2.drop o2).take (Nat.min l2 l1 * sz) = vs) (hvl : vs.length = Nat.min l2 l1 * sz) (hfit : o1 + vs.length ≤ cs.length) (h1 : ∀ v ∈ vs, v.oneCell' = true)
    (hk : K ds ((d, .int .i64 ((Nat.min l2 l1 : Nat) : Int)) :: s) (os.set i (cel b te (cs.take o1 ++ vs ++ cs.drop (o1 + vs.length)))) fs) (hd : Nat.blt d n = true := by rfl) :
    OpS P ro n E Q ⟨some d, .call ⟨.builtin .copy, #[x, y], #[t, t2]⟩, ty, p, af, g⟩ K ds s os fs :=
  OpS.val (by simp) rfl hd fun a w r => by
    have hb : w.heap[b]? = some (.cells cs.toArray te (0, 0)) := r.st.holds _ (List.mem_of_getElem? hr)
    have hb2 := r.st.holds _ (List.mem_of_getElem? hr2)
    have hrun := run_copyCells (P := P) (t2 := t2) (ty := ty) (dLen := l1) (dCap := c1) (sLen := l2) (sCap := c2) ht hs hb (a := ⟨b2, o2, none⟩) (cs := vs) (o := o1) hvl (fun q u hu => by
      rw [add_mk]
      have hq := (List.getElem?_eq_some_iff.1 hu).1
      rw [← hvs, List.getElem?_take, if_pos (by omega), List.getElem?_drop] at hu
      exact cel_cells hb2 hu) (by simpa using hfit) h1
    refine ⟨_, w.setRow b (cs.take o1 ++ vs ++ cs.drop (o1 + vs.length)).toArray, os.set i (cel b te (cs.take o1 ++ vs ++ cs.drop (o1 + vs.length))), fs, ?_, ?_, hk⟩
    · simp only [execOp, resolve, invoke, builtin, Sem.run_bind, Sem.run_pure, Result.andThen_ok, List.map_toArray, List.map_cons, List.map_nil, r.ag.eval hx, r.ag.eval hy, hrun]
    · exact r.st.turnAt hr (keep_setRow w b _) (by simp [Res.foot]) (setRow_heap w b _ _ te (0, 0) hb) (fun b' h => .inl h)
/-- Two slices of blocks of one's own, apart. -/
theorem o_overlaps (i j : Nat) {f : FuncId} {x y : Operand} {ats : Array TypeId} {tS tR e te te2 : TypeId} {sz b b2 o2 l1 l2 c1 c2 : Nat} {cs cs2 : List Value} (he : Ext P f (Extern.SlicesOverlaps.overlaps #[tS, tS] #[tR])) (hx : ev s x = some (.slice (some ⟨b, 0, none⟩) l1 c1)) (hy : ev s y = some (.slice (some ⟨b2, o2, none⟩) l2 c2))
    (hr : os[i]? = some (cel b te cs)) (hr2 : os[j]? = some (cel b2 te2 cs2)) (hij : i < j ∨ j < i) (ht : P.underlying tS = some (.slice e)) (hs : sizeIs P e sz = true) (hc : 0 < cs2.length)
    (hk : K ds ((d, .bool false) :: s) os fs) (hd : Nat.blt d n = true := by rfl) :
    OpS P ro n E Q ⟨some d, .call ⟨.value (.func f), #[x, y], ats⟩, ty, p, af, g⟩ K ds s os fs :=
  o_ext he (vs := [.slice (some ⟨b, 0, none⟩) l1 c1, .slice (some ⟨b2, o2, none⟩) l2 c2]) (by simp [hx, hy]) (fun w hst => by
    have h1 : w.heap[b]? = some (.cells cs.toArray te (0, 0)) := hst.holds _ (List.mem_of_getElem? hr)
    have h2 : w.heap[b2]? = some (.cells cs2.toArray te2 (0, 0)) := hst.holds _ (List.mem_of_getElem? hr2)
    have hne : b ≠ b2 := fun heq => by
      subst heq
      have hi := (List.getElem?_eq_some_iff.1 hr).1
      have hj := (List.getElem?_eq_some_iff.1 hr2).1
      have ei := (List.getElem?_eq_some_iff.1 hr).2
      have ej := (List.getElem?_eq_some_iff.1 hr2).2
      have hp := List.pairwise_iff_getElem.1 hst.apart
      rcases hij with h | h
      · exact hp i j hi hj h b (by rw [ei]; rfl) (by rw [ej]; rfl)
      · exact hp j i hj hi h b (by rw [ej]; rfl) (by rw [ei]; rfl)
    have := Lib.run_overlaps_apart (P := P) w tS tR e ht sz (fun w => run_sizeOf hs w) ⟨b, 0, none⟩ ⟨b2, o2, none⟩ l1 c1 l2 c2 hne te te2 cs.length cs2.length (by simp [World.shape?, h1]) (by simp [World.shape?, h2]) (by omega) (by simp [World.frozen?, h1]) (by simp [World.frozen?, h1])
    exact ⟨_, w, os, fs, this, hst, hk⟩) hd

/-! ### elements by natural numbers -/
theorem y_indexSN {x y : Operand} {t e : TypeId} {φ : Frag} {v : Value} {sz i : Nat} {ess : List (List Value)} {k : IntKind} {el : List Value} (hx : ev s x = some v) (hv : Sl φ v sz ess) (hy : ev s y = some (.int k (i : Int))) (ht : P.underlying t = some (.slice e)) (hs : sizeIs P e sz = true) (hel : ess[i]? = some el) :
    ∃ v', Pt φ v' el ∧ Y P H s (.indexAddr t x y) v' :=
  y_indexS hx hv hy ht hs (by omega) (by rw [Int.toNat_natCast]; exact hel)
/-- Texts, as elements. -/
def strs (l : List (List UInt8)) : List (List Value) := l.map fun s => [str s]
theorem strs_get {l : List (List UInt8)} {i : Nat} (h : i < l.length) : (strs l)[i]? = some [str (l.getD i [])] := by
  simp [strs, h]
theorem strs_len (l : List (List UInt8)) : (strs l).length = l.length := by simp [strs]
theorem strs_app (a b : List (List UInt8)) : strs (a ++ b) = strs a ++ strs b := by simp [strs]
theorem strs_one {l : List (List UInt8)} : ∀ x ∈ strs l, x.length = 1 := by
  intro x hx
  simp only [strs, List.mem_map] at hx
  obtain ⟨s, _, rfl⟩ := hx
  rfl
theorem strs_cells {l : List (List UInt8)} : ∀ x ∈ strs l, ∀ c ∈ x, c.oneCell' = true := by
  intro x hx
  simp only [strs, List.mem_map] at hx
  obtain ⟨s, _, rfl⟩ := hx
  simp [str, Value.oneCell']

/-! ### maps that are read -/
theorem run_checkKeyS {kt : TypeId} (hk : P.underlying kt = some .string) (emp : Bool) (key : List UInt8) (m : Nat) (w : World) : (Instr.checkKey emp (m + 1) kt (str key)).run P w = .ok () w := by
  simp [Instr.checkKey, str, run_underlying hk]
theorem run_getMap {r : Nat} {es : Array MapEntry} {clock : Nat} {w : World} (hb : w.heap[r]? = some (.map es clock)) : (getObj r).run P w = .ok (.map es clock) w := by simp [getObj, Sem.run, hb]
theorem y_lookupS {x y : Operand} {t kt e : TypeId} {φ : Frag} {b c : Nat} {es : Array MapEntry} {key : List UInt8} {i : Nat} {v : Value} (hx : ev s x = some (.map (some b))) (hy : ev s y = some (str key)) (hm : φ b = some (.map es c)) (hφ : φ ∈ fs) (ht : P.underlying t = some (.map kt e)) (hk : P.underlying kt = some .string)
    (hf : Instr.findNow .string (str key) es.toList 0 = some (some (i, v))) : Y P (Hold os fs) s (.lookup t x y false) v := fun o ρ w ho h hH => by
  have hb : w.heap[b]? = some (.map es c) := hH.2 φ hφ b _ hm
  have hck : (Instr.checkKey es.isEmpty 10000 kt (str key)).run P w = .ok () w := run_checkKeyS hk _ _ 9999 w
  have hgo := run_getMap (P := P) hb
  have hfk : (Instr.findKey kt (str key) es.toList).run P w = .ok (some (i, v)) w := by simp [Instr.findKey, run_underlying hk, hf]
  simp [execOp, ho, h x _ hx, h y _ hy, Instr.lookup, run_underlying ht, hgo, hck, hfk, Sem.run_bind]
theorem y_lookupS0 {x y : Operand} {t kt e : TypeId} {φ : Frag} {b c sz by_ : Nat} {es : Array MapEntry} {key : List UInt8} {z : Value} (hx : ev s x = some (.map (some b))) (hy : ev s y = some (str key)) (hm : φ b = some (.map es c)) (hφ : φ ∈ fs) (ht : P.underlying t = some (.map kt e)) (hk : P.underlying kt = some .string)
    (hf : Instr.findNow .string (str key) es.toList 0 = some none) (hz : zeroIs P e z sz by_) : Y P (Hold os fs) s (.lookup t x y false) z := fun o ρ w ho h hH => by
  have hb : w.heap[b]? = some (.map es c) := hH.2 φ hφ b _ hm
  obtain ⟨i0, hi, he⟩ := Option.map_eq_some_iff.1 hz
  simp only [Prod.mk.injEq] at he
  have hck : (Instr.checkKey es.isEmpty 10000 kt (str key)).run P w = .ok () w := run_checkKeyS hk _ _ 9999 w
  have hgo := run_getMap (P := P) hb
  have hfk : (Instr.findKey kt (str key) es.toList).run P w = .ok none w := by simp [Instr.findKey, run_underlying hk, hf]
  simp [execOp, ho, h x _ hx, h y _ hy, Instr.lookup, run_underlying ht, hgo, hck, hfk, Sem.run_bind, zeroValue, typeInfo, hi, he.1]

/-! ### structs that are compared -/
theorem ba_beq (a b : List UInt8) : ((⟨a.toArray⟩ : ByteArray) == ⟨b.toArray⟩) = decide (a = b) := by
  have e : ((⟨a.toArray⟩ : ByteArray) == ⟨b.toArray⟩) = (a.toArray == b.toArray) := rfl
  rw [e, Bool.eq_iff_iff]
  simp
theorem run_structEq {t : TypeId} {fields : Array Field} {xs ys : Array Value} (ht : P.underlying t = some (.struct fields)) (hs : P.stoodInHeld t = false) (m : Nat) (w : World) :
    (Op.equalIn (m + 1) t (.agg xs) (.agg ys)).run P w = Sem.run P (do
      for f in fields do
        if f.name ≠ "_" then
          if !(← Op.equalIn m f.type (← part f.type xs f.offset) (← part f.type ys f.offset)) then return false
      pure true) w := by
  rw [Op.equalIn, Sem.run_bind, run_underlying ht, Result.andThen_ok]
  show Sem.run P (do
      if (← program).stoodInHeld t then                                                                                                  
        unsupported (.noEntry "binop/eql.a struct with addresses of a package that the model stands in for")
      for f in fields do
        if f.name ≠ "_" then
          if !(← Op.equalIn m f.type (← part f.type xs f.offset) (← part f.type ys f.offset)) then return false
      pure true) w = _
  rw [Sem.run_bind]
  rw [show Sem.run P program w = .ok P w from rfl, Result.andThen_ok]
  simp only [hs, Bool.false_eq_true, if_false]
theorem run_eqStrIn {t : TypeId} {a b : List UInt8} (ht : P.underlying t = some .string) (m : Nat) (w : World) : (Op.equalIn (m + 1) t (str a) (str b)).run P w = .ok (decide (a = b)) w := by
  simp [Op.equalIn, str, run_underlying ht, ba_beq]
theorem run_eqIntIn {t : TypeId} {k : IntKind} {a b : Int} (ht : P.underlying t = some (.int k)) (m : Nat) (w : World) : (Op.equalIn (m + 1) t (.int k a) (.int k b)).run P w = .ok (decide (a = b)) w := by
  simp [Op.equalIn, run_underlying ht]
  rfl
theorem run_equal2 {t : TypeId} {f1 f2 : Field} {a1 a2 b1 b2 : Value} {p q : Bool} (ht : P.underlying t = some (.struct #[f1, f2])) (hs : P.stoodInHeld t = false) (h1 : f1.name ≠ "_") (h2 : f2.name ≠ "_") (o1 : f1.offset = 0) (o2 : f2.offset = 1)
    (s1 : scalar P f1.type = true) (s2 : scalar P f2.type = true) (m : Nat) (e1 : ∀ w, (Op.equalIn (m + 1) f1.type a1 b1).run P w = .ok p w) (e2 : ∀ w, (Op.equalIn (m + 1) f2.type a2 b2).run P w = .ok q w) (w : World) : (Op.equalIn (m + 1 + 1) t (.agg #[a1, a2]) (.agg #[b1, b2])).run P w = .ok (p && q) w := by
    have pa1 : ∀ w, (part f1.type #[a1, a2] 0).run P w = .ok a1 w := run_part_scalar s1 rfl
    have pb1 : ∀ w, (part f1.type #[b1, b2] 0).run P w = .ok b1 w := run_part_scalar s1 rfl
    have pa2 : ∀ w, (part f2.type #[a1, a2] 1).run P w = .ok a2 w := run_part_scalar s2 rfl
    have pb2 : ∀ w, (part f2.type #[b1, b2] 1).run P w = .ok b2 w := run_part_scalar s2 rfl
    rw [run_structEq ht hs]
    cases p <;> cases q <;> simp [h1, h2, o1, o2, pa1, pa2, pb1, pb2, e1, e2]
theorem run_equal3 {t : TypeId} {f1 f2 f3 : Field} {a1 a2 a3 b1 b2 b3 : Value} {p q r : Bool} (ht : P.underlying t = some (.struct #[f1, f2, f3])) (hs : P.stoodInHeld t = false) (h1 : f1.name ≠ "_") (h2 : f2.name ≠ "_") (h3 : f3.name ≠ "_") (o1 : f1.offset = 0) (o2 : f2.offset = 1) (o3 : f3.offset = 2)
    (s1 : scalar P f1.type = true) (s2 : scalar P f2.type = true) (s3 : scalar P f3.type = true) (m : Nat) (e1 : ∀ w, (Op.equalIn (m + 1) f1.type a1 b1).run P w = .ok p w) (e2 : ∀ w, (Op.equalIn (m + 1) f2.type a2 b2).run P w = .ok q w) (e3 : ∀ w, (Op.equalIn (m + 1) f3.type a3 b3).run P w = .ok r w) (w : World) : (Op.equalIn (m + 1 + 1) t (.agg #[a1, a2, a3]) (.agg #[b1, b2, b3])).run P w = .ok (p && q && r) w := by
    have pa1 : ∀ w, (part f1.type #[a1, a2, a3] 0).run P w = .ok a1 w := run_part_scalar s1 rfl
    have pb1 : ∀ w, (part f1.type #[b1, b2, b3] 0).run P w = .ok b1 w := run_part_scalar s1 rfl
    have pa2 : ∀ w, (part f2.type #[a1, a2, a3] 1).run P w = .ok a2 w := run_part_scalar s2 rfl
    have pb2 : ∀ w, (part f2.type #[b1, b2, b3] 1).run P w = .ok b2 w := run_part_scalar s2 rfl
    have pa3 : ∀ w, (part f3.type #[a1, a2, a3] 2).run P w = .ok a3 w := run_part_scalar s3 rfl
    have pb3 : ∀ w, (part f3.type #[b1, b2, b3] 2).run P w = .ok b3 w := run_part_scalar s3 rfl
    rw [run_structEq ht hs]
    cases p <;> cases q <;> cases r <;> simp [h1, h2, h3, o1, o2, o3, pa1, pa2, pa3, pb1, pb2, pb3, e1, e2, e3]
theorem run_guardE {op : BinOp} {t : TypeId} {x y : Operand} {xs ys : Array Value} (hg : P.eqGuardType P.depth t = false) (w : World) : (eqGuard op t x y (.agg xs) (.agg ys)).run P w = .ok () w := by
  unfold eqGuard
  cases op <;> simp [hg]
theorem y_eqlE {x y : Operand} {t u : TypeId} {xs ys : Array Value} {b : Bool} (hx : ev s x = some (.agg xs)) (hy : ev s y = some (.agg ys)) (hg : P.eqGuardType P.depth t = false) (h : ∀ w, (Op.equalIn (9998 + 1 + 1) t (.agg xs) (.agg ys)).run P w = .ok b w) : Y P H s (.binOp .eql t x y u) (.bool b) := fun o ρ w ho hρ _ => by
  simp [execOp, ho, hρ x _ hx, hρ y _ hy, binOp, Op.equal, show Op.maxDepth = 9998 + 1 + 1 from rfl, h w, run_guardE hg]
theorem y_neqE {x y : Operand} {t u : TypeId} {xs ys : Array Value} {b : Bool} (hx : ev s x = some (.agg xs)) (hy : ev s y = some (.agg ys)) (hg : P.eqGuardType P.depth t = false) (h : ∀ w, (Op.equalIn (9998 + 1 + 1) t (.agg xs) (.agg ys)).run P w = .ok b w) : Y P H s (.binOp .neq t x y u) (.bool (!b)) := fun o ρ w ho hρ _ => by
  simp [execOp, ho, hρ x _ hx, hρ y _ hy, binOp, Op.equal, show Op.maxDepth = 9998 + 1 + 1 from rfl, h w, run_guardE hg]
end
end Go.Proofs.Sep
