/-
  Walks of package wire: what reads octets; Walks of package rank: Of; of package wire: a file read; Walks of package wire: a file read.
-/
import Derived.Test.YthnhpbihgalgeaaDoorWiPure
import Derived.Test.YthnhpbihgalgeaaDoorWiW1
import Derived.Test.YthnhpbihgalgeaaDoorAmPan
namespace Go.Proofs.YthnhpbihgalgeaaDoor
set_option linter.unusedSimpArgs false
set_option linter.unusedVariables false
set_option linter.unnecessarySimpa false
open Go Am
set_option maxRecDepth 100000

/-- a reader's block -/
abbrev rdV (ver : Nat) (s : S) : Blk := ⟨ver, [.p (.sl 1 (s.map encO))]⟩
/-- what reading stops with -/
def brk : List PanicEntry := [{ v := .iface 61 (.agg #[]), recovered := false }]
def brkX (h : Heap) (ch : List PanicEntry) (h' : Heap) : Prop := ch = brk ∧ h' = h

theorem map_take_oct (s : S) (n : Nat) : (s.map encO).take n = (s.take n).map encO := by rw [List.map_take]
theorem map_drop_oct (s : S) (n : Nat) : (s.map encO).drop n = (s.drop n).map encO := by rw [List.map_drop]

theorem cut_ok (s : S) (n : Nat) (hle : n ≤ s.length) (h : Heap) (b id ver : Nat) (hid : id < b) (hb : h id = some (rdV ver s)) :
    ACalls Tryd.prog 53 [.one (.ptr id ver 0), IntV n] h b 0 (fun r h' => r = OctV (s.take n) ∧ h' = upd h id (rdV ver (s.drop n))) := by
  refine ACalls.enter Tryd.func53 rfl (by simp [Tryd.ntmps53]) (fun ι w hn H => ?_)
  have hc : ¬ (s.length : Int) < n := by omega
  have hlm : (s.map encO).length = s.length := List.length_map _
  refine Rk ?_
  refine AWP.seq ?_
  refine Rkf (jn3 @hb @hlm @hc) ?_
  refine Bs ?_
  refine Rgf (jn2 @hb @hlm) (fun E K hE hK => ?_)
  refine ⟨by omega, ?_⟩
  refine hK _ _ _ ?_; clear hE hK K E
  refine Rgf (jn2 @hb @hlm) (fun E K hE hK => ?_)
  refine ⟨by omega, ?_⟩
  refine hK _ _ _ ?_; clear hE hK K E
  refine Rk ?_
  refine AWP.ret ?_
  have e2 : ((s.map encO).drop n).take (s.length - n) = (s.drop n).map encO := by rw [← List.map_drop, List.take_of_length_le (by simp)]
  rw [map_take_oct, e2]
  exact Ends.turn hn H hid (fun _ _ => rfl) rfl (r0 := OctV (s.take n)) (by rw [show Tryd.f53.results.toList = [.tmp 4] from rfl]; exact Er) (frzV.p _) ⟨rfl, rfl⟩

theorem cut_bad (s : S) (n : Int) (hle : (s.length : Int) < n) (h : Heap) (b id ver : Nat) (hb : h id = some (rdV ver s)) :
    PCalls Tryd.prog 53 [.one (.ptr id ver 0), IntV n] h b 0 (fun _ _ => False) (brkX h) := by
  refine PCalls.enter Tryd.func53 rfl (by simp [Tryd.ntmps53]) (fun ι w hn H => ?_)
  have hlm : (s.map encO).length = s.length := List.length_map _
  have hi : isCon Tryd.prog 61 = true := by kernel_rfl
  refine Rk ?_
  refine AWP.seq ?_
  refine Rkf (jn3 @hb @hlm @hle) ?_
  refine Bt ?_
  refine Raf @hi (fun E K hE hK => ?_)
  refine hE _ _ ?_
  exact EndsX.pure hn H (fun _ _ => rfl) ⟨rfl, rfl⟩

def numI (s : S) (ver : Nat) (h : Heap) (b id wd i : Nat) (st : St) : Prop :=
  st.h = upd h id (rdV ver (s.drop wd)) ∧ st.t 4 = U64V (unB (s.take i)) ∧ st.t 9 = OctV (s.take wd) ∧ st.t 10 = IntV wd ∧ st.t 11 = IntV (i : Nat)

theorem or_num {a c i : Nat} (ha : a < 256 ^ i) (hc : c < 256) (hi : i < 8) : orI .u64 (a : Int) (IntKind.u64.wrap ((c : Int) * 2 ^ (min (8 * i : Int).toNat 64))) = ((a + 256 ^ i * c : Nat) : Int) := by
  show IntKind.u64.wrap ((BitVec.ofInt 64 (a : Int) ||| BitVec.ofInt 64 (IntKind.u64.wrap ((c : Int) * 2 ^ (min (8 * i : Int).toNat 64)))).toNat) = _
  have h1 : min (8 * i : Int).toNat 64 = 8 * i := by
    have : (8 * (i : Int)).toNat = 8 * i := by omega
    rw [this]; omega
  have hp : 256 ^ i = 2 ^ (8 * i) := by rw [Nat.pow_mul]
  have hlt : 256 ^ (i + 1) ≤ 256 ^ 8 := Nat.pow_le_pow_right (by decide) (by omega)
  have hm : 256 ^ i * c + 256 ^ i ≤ 256 ^ (i + 1) := by
    rw [Nat.pow_succ]
    have := Nat.mul_le_mul_left (256 ^ i) (show c + 1 ≤ 256 by omega)
    rw [Nat.mul_add, Nat.mul_one] at this; exact this
  rw [pow8] at hlt
  have h2 : (c : Int) * 2 ^ (8 * i) = ((2 ^ (8 * i) * c : Nat) : Int) := by rw [Int.natCast_mul, Int.natCast_pow, Int.mul_comm]; rfl
  rw [h1, h2, ← hp]
  have h3 : IntKind.u64.wrap ((256 ^ i * c : Nat) : Int) = ((256 ^ i * c : Nat) : Int) := by rw [wrap_u64]; omega
  rw [h3, BitVec.ofInt_natCast, BitVec.ofInt_natCast, BitVec.toNat_or, BitVec.toNat_ofNat, BitVec.toNat_ofNat, Nat.mod_eq_of_lt (by omega), Nat.mod_eq_of_lt (by omega), Nat.or_comm, hp]
  rw [← Nat.two_pow_add_eq_or_of_lt (i := 8 * i) (b := a) (by rw [← hp]; exact ha) c, ← hp]
  rw [wrap_u64]; omega

theorem number_ok (s : S) (wd : Nat) (hle : wd ≤ s.length) (hw : wd ≤ 8) (h : Heap) (b id ver : Nat) (hid : id < b) (hb : h id = some (rdV ver s)) :
    ACalls Tryd.prog 40 [.one (.ptr id ver 0), IntV wd] h b 0 (fun r h' => r = U64V (unB (s.take wd)) ∧ h' = upd h id (rdV ver (s.drop wd))) := by
  refine ACalls.enter Tryd.func40 rfl (by simp [Tryd.ntmps40]) (fun ι w hn H => ?_)
  have htl : (s.take wd).length = wd := by rw [List.length_take]; omega
  have hlm : ((s.take wd).map encO).length = wd := by rw [List.length_map]; exact htl
  refine Rk ?_
  refine AWP.seq ?_
  refine Rg (fun E K hE hK => ?_)
  refine Us (cut_ok s wd hle _ _ id ver hid hb) body_53 ?_
  rw [htl]
  refine hK _ _ _ ?_; clear hE hK K E
  refine AWP.block ?_
  refine AWP.loopK 0 (fun m st => ∃ i, i ≤ wd ∧ m = wd - i ∧ numI s ver h b id wd i st) wd rfl ⟨0, Nat.zero_le _, rfl, rfl, by exact Er, by exact Er, by exact Er, by exact Er⟩ ?_
  rintro m ⟨t, hh, n⟩ ⟨i, hi, rfl, rfl, e4, e9, e10, e11⟩ hn1
  simp only at e4 e9 e10 e11 hn1
  subst hn1
  refine Rkf (jn2 @e10 @e11) ?_
  refine AWP.seq ?_
  by_cases hlt : (i : Int) < wd
  · have hw1 : IntKind.i64.wrap ((i : Int) + 1) = ((i + 1 : Nat) : Int) := by rw [wrap_i64 (by omega) (by omega)]; rfl
    have hw8 : IntKind.i64.wrap (8 * (i : Int)) = 8 * (i : Int) := wrap_i64 (by omega) (by omega)
    have hneg : ¬ (8 * (i : Int)) < 0 := by omega
    have hi2 : i < (s.take wd).length := by omega
    have hge := encO_getD (s.take wd) i hi2
    obtain ⟨c, hc⟩ : ∃ c, (s.take wd)[i] = c := ⟨_, rfl⟩
    rw [hc] at hge
    have hcl := c.toNat_lt
    have wc : IntKind.u64.wrap (c.toNat : Int) = (c.toNat : Int) := by rw [wrap_u64]; omega
    have hlen : (s.take i).length = i := by rw [List.length_take]; omega
    have hub := unB_lt (s.take i)
    rw [hlen] at hub
    have hor := or_num hub (c := c.toNat) (by omega) (show i < 8 by omega)
    have hsi : s[i]? = some c := by
      rw [← hc, ← List.getElem?_eq_getElem hi2, List.getElem?_take, if_pos (by omega)]
    have hsn : unB (s.take i) + 256 ^ i * c.toNat = unB (s.take (i + 1)) := by
      rw [List.take_add_one, hsi, unB_app, hlen]; simp [unB]
    rw [hsn] at hor
    refine Btf @hlt ?_
    refine AWP.skip ?_
    refine Ev ?_
    refine AWP.seq ?_
    refine AWP.block ?_
    refine Rgf (jn5 @e9 @e11 @htl @hlt @hge) (fun E K hE hK => ?_)
    refine ⟨by omega, ?_⟩
    refine hK _ _ _ ?_; clear hE hK K E
    refine Raf (jn5 @e4 @hw8 @hneg @wc @hor) (fun E K hE hK => ?_)
    refine hK _ _ _ ?_; clear hE hK K E
    refine Ev ?_
    refine Raf (jn2 @e11 @hw1) (fun E K hE hK => ?_); refine hK _ _ _ ?_; clear hE hK K E
    exact ⟨rfl, wd - (i + 1), by omega, i + 1, by omega, rfl, rfl, by exact Er, by exact Ecf @e9, by exact Ecf @e10, by exact Er⟩
  · refine Bff @hlt ?_
    refine AWP.exit ?_
    refine Ev ?_
    have hil : i = wd := by omega
    subst hil
    refine Rkf @e4 ?_
    refine AWP.ret ?_
    exact Ends.turn hn H hid (fun _ _ => rfl) rfl (r0 := U64V (unB (s.take i))) (by rw [show Tryd.f40.results.toList = [.tmp 4] from rfl]; exact Er) (.v _) ⟨rfl, rfl⟩

theorem number_bad (s : S) (wd : Nat) (hle : s.length < wd) (h : Heap) (b id ver : Nat) (hb : h id = some (rdV ver s)) :
    PCalls Tryd.prog 40 [.one (.ptr id ver 0), IntV wd] h b 0 (fun _ _ => False) (brkX h) := by
  refine PCalls.enter Tryd.func40 rfl (by simp [Tryd.ntmps40]) (fun ι w hn H => ?_)
  refine Rk ?_
  refine AWP.seq ?_
  refine Rg (fun E K hE hK => ?_)
  refine CallR.useX (cut_bad s wd (by omega) _ _ id ver hb) body_53 ?_
  rintro _ _ ⟨rfl, rfl⟩
  refine hE _ _ ?_
  refine Ev ?_
  exact EndsX.pure hn H (fun _ _ => rfl) ⟨rfl, rfl⟩
end Go.Proofs.YthnhpbihgalgeaaDoor

namespace Go.Proofs.YthnhpbihgalgeaaDoor
set_option linter.unusedSimpArgs false
set_option linter.unusedVariables false
set_option linter.unnecessarySimpa false
open Go Am
set_option maxRecDepth 100000

theorem frombits_run (args : Array Value) (w : World) : (callFunc 47 args).run Tryd.prog w = ((Extern.MathFloatBits.float64frombits args).run Tryd.prog w).andThen fun v w' => .ok (.value v) w' :=
  run_callFunc_extern (fn := Tryd.f47) Tryd.func47 (by kernel_rfl) (by kernel_rfl) (by kernel_rfl) (e := Extern.MathFloatBits.float64frombits) (by kernel_rfl) args w
theorem frombits_ext {C : Ctx} {h : Heap} {n : Nat} {K : KT} {x : Nat} (k : K (F64V x) h n) : ExtK Tryd.prog C 47 [U64V x] h n K := by
  intro a w ι Vs I hVs
  obtain ⟨hlen, hVs⟩ := hVs
  match Vs, hlen with
  | [X], _ =>
    have hX := rav_v_inv (hVs 0 _ X rfl rfl)
    subst hX
    refine ⟨.float .f64 x, w, _, h, n, ι, ?_, k, I, rav_v _, .refl _ _ _ _⟩
    rw [frombits_run]
    rfl
theorem nan_ok (h : Heap) (b : Nat) : ACalls Tryd.prog 46 [] h b 0 (fun r h' => r = F64V nanV ∧ h' = h) := by
  refine ACalls.enter Tryd.func46 rfl (by simp [Tryd.ntmps46]) (fun ι w hn H => ?_)
  refine Rk ?_
  refine Rg (fun E K hE hK => ?_)
  refine CallR.ext (frombits_ext (x := nanV) ?_)
  refine Ev ?_
  refine hK _ _ _ ?_; clear hE hK K E
  refine AWP.ret ?_
  exact Ends.pure hn H (fun _ _ => rfl) (r0 := F64V nanV) (by rw [show Tryd.f46.results.toList = [.tmp 0] from rfl]; exact Er) (.v _) ⟨rfl, rfl⟩

theorem un_xor {k : Nat} (hk : k < 18446744073709551616) : notI .u64 (k : Int) = ((18446744073709551615 - k : Nat) : Int) := by
  unfold notI
  rw [xor_key k hk, wrap_u64]; omega
theorem and_high {k : Nat} (hk : k < 18446744073709551616) : andI .u64 (k : Int) 9223372036854775808 = if 9223372036854775808 ≤ k then 9223372036854775808 else 0 := by
  show IntKind.u64.wrap ((BitVec.ofInt 64 (k : Int) &&& BitVec.ofInt 64 9223372036854775808).toNat : Int) = _
  have e : BitVec.ofInt 64 9223372036854775808 = BitVec.ofNat 64 9223372036854775808 := by decide
  rw [e, BitVec.ofInt_natCast, BitVec.toNat_and, BitVec.toNat_ofNat, BitVec.toNat_ofNat, Nat.mod_eq_of_lt (by omega), Nat.mod_eq_of_lt (by decide)]
  have hb : k.testBit 63 = decide (9223372036854775808 ≤ k) := by
    rw [Nat.testBit_eq_decide_div_mod_eq]
    exact decide_eq_decide.2 (by omega)
  have hv : k &&& 9223372036854775808 = if 9223372036854775808 ≤ k then 9223372036854775808 else 0 := by
    refine Nat.eq_of_testBit_eq (fun i => ?_)
    rw [Nat.testBit_and, show (9223372036854775808 : Nat) = 2 ^ 63 from rfl, Nat.testBit_two_pow]
    by_cases hi : 63 = i
    · subst hi
      rw [hb, decide_eq_true rfl, Bool.and_true]
      by_cases c : 9223372036854775808 ≤ k
      · rw [decide_eq_true c, if_pos (show 2 ^ 63 ≤ k from c), Nat.testBit_two_pow]; simp
      · rw [decide_eq_false c, if_neg (show ¬ 2 ^ 63 ≤ k from c)]; simp
    · rw [decide_eq_false hi, Bool.and_false]
      by_cases c : 9223372036854775808 ≤ k
      · rw [if_pos (show 2 ^ 63 ≤ k from c), Nat.testBit_two_pow, decide_eq_false hi]
      · rw [if_neg (show ¬ 2 ^ 63 ≤ k from c)]; simp
  rw [hv]
  split <;> rfl
theorem andNot_high {k : Nat} (hk : k < 18446744073709551616) (h : 9223372036854775808 ≤ k) : andNotI .u64 (k : Int) 9223372036854775808 = ((k - 9223372036854775808 : Nat) : Int) := by
  show IntKind.u64.wrap ((BitVec.ofInt 64 (k : Int) &&& ~~~ (BitVec.ofInt 64 9223372036854775808)).toNat : Int) = _
  rw [show ~~~ (BitVec.ofInt 64 9223372036854775808) = BitVec.ofNat 64 9223372036854775807 from rfl, BitVec.ofInt_natCast, BitVec.toNat_and, BitVec.toNat_ofNat, BitVec.toNat_ofNat, Nat.mod_eq_of_lt (by omega), Nat.mod_eq_of_lt (by decide), show 9223372036854775807 = 2 ^ 63 - 1 from rfl, Nat.and_two_pow_sub_one_eq_mod, wrap_u64]
  omega

theorem Of_ok (k : Nat) (hk : k < 18446744073709551616) (h : Heap) (b : Nat) : ACalls Tryd.prog 54 [U64V k] h b 0 (fun r h' => r = .tup [F64V (ofR k).1, IntV (ofR k).2] ∧ h' = h) := by
  refine ACalls.enter Tryd.func54 rfl (by simp [Tryd.ntmps54]) (fun ι w hn H => ?_)
  have fin : ∀ (t : Nat → AV) (hh : Heap) (n : Nat) (v : Nat × Int), t 2 = F64V v.1 → t 3 = IntV v.2 → (∀ id, id < b → hh id = h id) → v = ofR k → Am.Ends Tryd.prog ⟨Tryd.f54.ntmps, b, ι, h, w, x0⟩ Tryd.f54 0 (fun r h' => r = .tup [F64V (ofR k).1, IntV (ofR k).2] ∧ h' = h) ⟨t, hh, n⟩ := by
    intro t hh n v ht ht2 ho hv
    exact Ends.pure hn H ho (r0 := .tup [F64V v.1, IntV v.2]) (by rw [show Tryd.f54.results.toList = [.tmp 2, .tmp 3] from rfl]; exact Ecf (jn2 @ht @ht2)) (frz_tup2 (.v _) (.v _)) ⟨by rw [hv], rfl⟩
  have hx := un_xor hk
  have ha := and_high hk
  refine Rk ?_
  refine Rkf @hx ?_
  refine AWP.mid (fun st => st.n = 0 ∧ st.h = h ∧ st.t 0 = U64V k ∧ st.t 4 = U64V (ofN k)) ?_ ?_
  · by_cases c : 9223372036854775808 ≤ k
    · rw [if_pos c] at ha
      have hn := andNot_high hk c
      have ho : ofN k = k - 9223372036854775808 := by unfold ofN; rw [if_pos c]
      refine Rkf (jn2 @ha (show ¬ (9223372036854775808 : Int) = 0 by decide)) ?_
      refine Bt ?_
      refine Raf @hn (fun E K hE hK => ?_); refine hK _ _ _ ?_; clear hE hK K E
      exact ⟨rfl, rfl, by exact Er, by rw [ho]; exact Er⟩
    · rw [if_neg c] at ha
      have ho : ofN k = 18446744073709551615 - k := by unfold ofN; rw [if_neg c]
      refine Rkf @ha ?_
      refine Bf ?_
      exact AWP.skip ⟨rfl, rfl, by exact Er, by rw [ho]; exact Er⟩
  rintro ⟨t, hh, n⟩ ⟨hn0, hh0, e0, e4⟩
  simp only at hn0 hh0 e0 e4
  subst hn0
  subst hh0
  refine Rgf @e4 (fun E K hE hK => ?_)
  refine CallR.ext (frombits_ext ?_)
  refine Ev ?_
  refine hK _ _ _ ?_; clear hE hK K E
  refine AWP.seq ?_
  refine AWP.block ?_
  by_cases c1 : k = 18446744073709551615
  · have c1' : ((k : Nat) : Int) = 18446744073709551615 := by omega
    refine Rkf (jn2 @e0 @c1') ?_
    refine Bt ?_
    refine Rg (fun E K hE hK => ?_)
    refine Us (nan_ok _ _) body_46 ?_
    refine hK _ _ _ ?_; clear hE hK K E
    refine AWP.ret ?_
    refine Ev ?_
    exact fin _ _ _ (nanV, 0) (by exact Er) (by exact Er) (fun _ _ => rfl) (by unfold ofR; rw [if_pos c1])
  have c1' : ¬ ((k : Nat) : Int) = 18446744073709551615 := by omega
  refine Rkf (jn2 @e0 @c1') ?_
  refine Bf ?_
  refine Rg (fun E K hE hK => ?_)
  refine Us (isNaN64_ok (ofN k) _ _) body_51 ?_
  refine hK _ _ _ ?_; clear hE hK K E
  cases c2 : nanF (ofN k)
  · have c2' : (FloatKind.f64.format.order (ofN k) (ofN k) != some .eq) = false := c2
    refine Bsf @c2' ?_
    refine Rk ?_
    refine AWP.ret ?_
    exact fin _ _ _ (ofN k, 0) (by exact Er) (by exact Er) (fun _ _ => rfl) (by unfold ofR; rw [if_neg c1, c2, if_neg (by decide)])
  · have c2' : (FloatKind.f64.format.order (ofN k) (ofN k) != some .eq) = true := c2
    refine Btf @c2' ?_
    refine Rk ?_
    refine AWP.ret ?_
    refine Ev ?_
    exact fin _ _ _ (0, 2) (by exact Er) (by exact Er) (fun _ _ => rfl) (by unfold ofR; rw [if_neg c1, c2, if_pos rfl])
end Go.Proofs.YthnhpbihgalgeaaDoor

namespace Go.Proofs.YthnhpbihgalgeaaDoor
set_option linter.unusedSimpArgs false
set_option linter.unusedVariables false
set_option linter.unnecessarySimpa false
open Go Am
set_option maxRecDepth 100000

theorem PCalls.toA {P : Program} {f : FuncId} {args : List AV} {h : Heap} {b m : Nat} {R R' : AV → Heap → Prop} {X : List PanicEntry → Heap → Prop} (c : PCalls P f args h b m R X) (hx : ∀ ch h', ¬ X ch h') (hr : ∀ r h', R r h' → R' r h') : ACalls P f args h b m R' :=
  fun ι w vs hb hh ha => (c ι w vs hb hh ha).mono fun _ _ q => by
    rcases q with ⟨v, r, h', ι', e, hR, hp, hv⟩ | ⟨ch, h', ι', e, hX, hp⟩
    · exact ⟨v, r, h', ι', e, hr _ _ hR, hp, hv⟩
    · exact absurd hX (hx _ _)
theorem PCalls.mono {P : Program} {f : FuncId} {args : List AV} {h : Heap} {b m : Nat} {R R' : AV → Heap → Prop} {X X' : List PanicEntry → Heap → Prop} (c : PCalls P f args h b m R X) (hr : ∀ r h', R r h' → R' r h') (hx : ∀ ch h', X ch h' → X' ch h') : PCalls P f args h b m R' X' :=
  fun ι w vs hb hh ha => (c ι w vs hb hh ha).mono fun _ _ q => by
    rcases q with ⟨v, r, h', ι', e, hR, hp, hv⟩ | ⟨ch, h', ι', e, hX, hp⟩
    · exact .inl ⟨v, r, h', ι', e, hr _ _ hR, hp, hv⟩
    · exact .inr ⟨ch, h', ι', e, hx _ _ hX, hp⟩

theorem rdB_def {n : Nat} {s a u : S} (h : rdB n s = some (a, u)) : n ≤ s.length ∧ a = s.take n ∧ u = s.drop n := by
  unfold rdB at h
  split at h
  · rename_i hl
    injection h with h; injection h with h1 h2
    exact ⟨hl, h1.symm, h2.symm⟩
  · cases h
theorem rdB_none {n : Nat} {s : S} (h : rdB n s = none) : s.length < n := by
  unfold rdB at h
  split at h
  · cases h
  · omega
theorem number_rd {s a u : S} {wd : Nat} (hr : rdB wd s = some (a, u)) (hw : wd ≤ 8) (h : Heap) (b id ver : Nat) (hid : id < b) (hb : h id = some (rdV ver s)) :
    ACalls Tryd.prog 40 [.one (.ptr id ver 0), IntV wd] h b 0 (fun r h' => r = U64V (unB a) ∧ h' = upd h id (rdV ver u)) := by
  obtain ⟨h1, rfl, rfl⟩ := rdB_def hr
  exact number_ok s wd h1 hw h b id ver hid hb
theorem cut_rd {s a u : S} {n : Nat} (hr : rdB n s = some (a, u)) (h : Heap) (b id ver : Nat) (hid : id < b) (hb : h id = some (rdV ver s)) :
    ACalls Tryd.prog 53 [.one (.ptr id ver 0), IntV n] h b 0 (fun r h' => r = OctV a ∧ h' = upd h id (rdV ver u)) := by
  obtain ⟨h1, rfl, rfl⟩ := rdB_def hr
  exact cut_ok s n h1 h b id ver hid hb

/-- what a file read comes to -/
def rfR (s : S) (h : Heap) (id ver : Nat) (r : AV) (h' : Heap) : Prop := ∃ f u, readF s = some (f, u) ∧ r = FlV f ∧ h' = upd h id (rdV ver u)
def rfX (s : S) (h : Heap) (id ver : Nat) (ch : List PanicEntry) (h' : Heap) : Prop := ch = brk ∧ readF s = none ∧ ∃ u, h' = upd h id (rdV ver u)

theorem rfile_ok (s : S) (h : Heap) (b id ver : Nat) (hid : id < b) (hb : h id = some (rdV ver s)) :
    PCalls Tryd.prog 41 [.one (.ptr id ver 0)] h b 0 (rfR s h id ver) (rfX s h id ver) := by
  refine PCalls.enter Tryd.func41 rfl (by simp [Tryd.ntmps41]) (fun ι w hn H => ?_)
  have hne : ¬ id = b := by omega
  have hne' : ¬ b = id := by omega
  have hi : isCon Tryd.prog 61 = true := by kernel_rfl
  have ho : octT Tryd.prog 25 9 = true := by kernel_rfl
  refine Rk ?_
  cases r1 : rdB 1 s with
  | none =>
    refine Rg (fun E K hE hK => ?_)
    refine CallR.useX (number_bad s 1 (rdB_none r1) _ _ id ver (by exact Erf (jn2 @hb @hne))) body_40 ?_
    rintro _ _ ⟨rfl, rfl⟩
    refine hE _ _ ?_
    refine Ev ?_
    exact EndsX.turn hn H hid (blk := rdV ver s) (fun i (hi : i < b) => by simp [upd, show ¬ i = b by omega]; intro e; subst e; exact hb) rfl ⟨rfl, by unfold readF; rw [r1]; rfl, s, rfl⟩
  | some p1 =>
  obtain ⟨a1, s1⟩ := p1
  have l1 := (rdB_some r1).2
  have u1 := unB_lt a1
  rw [l1] at u1
  have w1 : IntKind.i64.wrap (unB a1 : Int) = ((unB a1 : Nat) : Int) := wrap_i64 (by omega) (by omega)
  cases r2 : rdB (unB a1) s1 with
  | none =>
    refine Rg (fun E K hE hK => ?_)
    refine Us (number_rd r1 (by decide) _ _ id ver (Nat.lt_succ_of_lt hid) (by exact Erf (jn2 @hb @hne))) body_40 ?_
    refine Evf @w1 ?_
    refine CallR.useX (cut_bad s1 (unB a1) (by have := rdB_none r2; omega) _ _ id ver (upd_same _ _ _)) body_53 ?_
    rintro _ _ ⟨rfl, rfl⟩
    refine hE _ _ ?_
    refine Ev ?_
    exact EndsX.turn hn H hid (blk := rdV ver s1) (fun i (hi : i < b) => by simp [upd, show ¬ i = b by omega]) rfl ⟨rfl, by unfold readF; simp only [r1, r2, Option.bind_some, Option.bind_none], s1, rfl⟩
  | some p2 =>
  obtain ⟨nm, s2⟩ := p2
  have o2 := octE_map nm
  refine Rg (fun E K hE hK => ?_)
  refine Us (number_rd r1 (by decide) _ _ id ver (Nat.lt_succ_of_lt hid) (by exact Erf (jn2 @hb @hne))) body_40 ?_
  refine Evf @w1 ?_
  refine Us (cut_rd r2 _ _ id ver (Nat.lt_succ_of_lt hid) (upd_same _ _ _)) body_53 ?_
  refine Evf (jn4 @ho @o2 @hne @hne') ?_
  refine hK _ _ _ ?_; clear hE hK K E
  have hu1 : ∀ x y z, upd (upd (upd h b x) id y) b z = upd (upd h id y) b z := fun x y z => by
    funext i; unfold upd; split <;> rfl
  have hu2 : ∀ x y z, upd (upd (upd h id x) b y) id z = upd (upd h b y) id z := fun x y z => by
    funext i; unfold upd; split <;> rfl
  refine Rkf @hu1 ?_
  refine AWP.seq ?_
  cases r3 : rdB 8 s2 with
  | none =>
    refine Rg (fun E K hE hK => ?_)
    refine CallR.useX (number_bad s2 8 (rdB_none r3) _ _ id ver (by exact Erf @hne)) body_40 ?_
    rintro _ _ ⟨rfl, rfl⟩
    refine hE _ _ ?_
    refine Ev ?_
    exact EndsX.turn hn H hid (blk := rdV ver s2) (fun i (hi : i < b) => by simp [upd, show ¬ i = b by omega]) rfl ⟨rfl, by unfold readF; simp only [r1, r2, r3, Option.bind_some, Option.bind_none], s2, rfl⟩
  | some p3 =>
  obtain ⟨k, s3⟩ := p3
  have l3 := (rdB_some r3).2
  have u3 := unB_lt k
  rw [l3, pow8] at u3
  obtain ⟨rk, er, hof⟩ : ∃ rk er, ofR (unB k) = (rk, er) := ⟨_, _, rfl⟩
  refine Rg (fun E K hE hK => ?_)
  refine Us (number_rd r3 (by decide) _ _ id ver (Nat.lt_succ_of_lt hid) (by exact Erf @hne)) body_40 ?_
  refine Us (Of_ok (unB k) u3 _ _) body_54 ?_
  refine Evf (jn5 @hof @hne @hne' @hu1 @hu2) ?_
  refine hK _ _ _ ?_; clear hE hK K E
  by_cases he : er = 0
  case neg =>
    refine Rkf @he ?_
    refine Bt ?_
    refine Raf @hi (fun E K hE hK => ?_)
    refine hE _ _ ?_
    refine Ev ?_
    exact EndsX.turn hn H hid (blk := rdV ver s3) (fun i (hi : i < b) => by simp [upd, show ¬ i = b by omega]) rfl ⟨rfl, by unfold readF; simp only [r1, r2, r3, hof, Option.bind_some, ne_eq, he, not_false_eq_true, if_true], s3, rfl⟩
  subst he
  refine Rk ?_
  refine Bs ?_
  cases r4 : rdB 4 s3 with
  | none =>
    refine Rg (fun E K hE hK => ?_)
    refine CallR.useX (number_bad s3 4 (rdB_none r4) _ _ id ver (by exact Erf @hne)) body_40 ?_
    rintro _ _ ⟨rfl, rfl⟩
    refine hE _ _ ?_
    refine Ev ?_
    exact EndsX.turn hn H hid (blk := rdV ver s3) (fun i (hi : i < b) => by simp [upd, show ¬ i = b by omega]) rfl ⟨rfl, by unfold readF; simp only [r1, r2, r3, r4, hof, Option.bind_some, Option.bind_none, ne_eq, not_true_eq_false, if_false], s3, rfl⟩
  | some p =>
  obtain ⟨su, s4⟩ := p
  have sul := (rdB_some r4).2
  have suu := unB_lt su
  rw [sul] at suu
  have wsu : IntKind.u32.wrap (unB su : Int) = ((unB su : Nat) : Int) := by rw [wrap_u32]; omega
  refine Rg (fun E K hE hK => ?_)
  refine Us (number_rd r4 (by decide) _ _ id ver (Nat.lt_succ_of_lt hid) (by exact Erf @hne)) body_40 ?_
  refine Evf (jn5 @wsu @hne @hne' @hu1 @hu2) ?_
  refine hK _ _ _ ?_; clear hE hK K E
  cases r5 : rdB 2 s4 with
  | none =>
    refine Rg (fun E K hE hK => ?_)
    refine CallR.useX (number_bad s4 2 (rdB_none r5) _ _ id ver (by exact Erf @hne)) body_40 ?_
    rintro _ _ ⟨rfl, rfl⟩
    refine hE _ _ ?_
    refine Ev ?_
    exact EndsX.turn hn H hid (blk := rdV ver s4) (fun i (hi : i < b) => by simp [upd, show ¬ i = b by omega]) rfl ⟨rfl, by unfold readF; simp only [r1, r2, r3, r4, r5, hof, Option.bind_some, Option.bind_none, ne_eq, not_true_eq_false, if_false], s4, rfl⟩
  | some p =>
  obtain ⟨bk, s5⟩ := p
  have bkl := (rdB_some r5).2
  have bku := unB_lt bk
  rw [bkl] at bku
  have wbk : IntKind.i64.wrap (unB bk : Int) = ((unB bk : Nat) : Int) := by exact wrap_i64 (by omega) (by omega)
  refine Rg (fun E K hE hK => ?_)
  refine Us (number_rd r5 (by decide) _ _ id ver (Nat.lt_succ_of_lt hid) (by exact Erf @hne)) body_40 ?_
  refine Evf (jn5 @wbk @hne @hne' @hu1 @hu2) ?_
  refine hK _ _ _ ?_; clear hE hK K E
  cases r6 : rdB 3 s5 with
  | none =>
    refine Rg (fun E K hE hK => ?_)
    refine CallR.useX (number_bad s5 3 (rdB_none r6) _ _ id ver (by exact Erf @hne)) body_40 ?_
    rintro _ _ ⟨rfl, rfl⟩
    refine hE _ _ ?_
    refine Ev ?_
    exact EndsX.turn hn H hid (blk := rdV ver s5) (fun i (hi : i < b) => by simp [upd, show ¬ i = b by omega]) rfl ⟨rfl, by unfold readF; simp only [r1, r2, r3, r4, r5, r6, hof, Option.bind_some, Option.bind_none, ne_eq, not_true_eq_false, if_false], s5, rfl⟩
  | some p =>
  obtain ⟨fr, s6⟩ := p
  have frl := (rdB_some r6).2
  have fru := unB_lt fr
  rw [frl] at fru
  have wfr : IntKind.i64.wrap (unB fr : Int) = ((unB fr : Nat) : Int) := by exact wrap_i64 (by omega) (by omega)
  refine Rg (fun E K hE hK => ?_)
  refine Us (number_rd r6 (by decide) _ _ id ver (Nat.lt_succ_of_lt hid) (by exact Erf @hne)) body_40 ?_
  refine Evf (jn5 @wfr @hne @hne' @hu1 @hu2) ?_
  refine hK _ _ _ ?_; clear hE hK K E
  cases r7 : rdB 3 s6 with
  | none =>
    refine Rg (fun E K hE hK => ?_)
    refine CallR.useX (number_bad s6 3 (rdB_none r7) _ _ id ver (by exact Erf @hne)) body_40 ?_
    rintro _ _ ⟨rfl, rfl⟩
    refine hE _ _ ?_
    refine Ev ?_
    exact EndsX.turn hn H hid (blk := rdV ver s6) (fun i (hi : i < b) => by simp [upd, show ¬ i = b by omega]) rfl ⟨rfl, by unfold readF; simp only [r1, r2, r3, r4, r5, r6, r7, hof, Option.bind_some, Option.bind_none, ne_eq, not_true_eq_false, if_false], s6, rfl⟩
  | some p =>
  obtain ⟨ln, s7⟩ := p
  have lnl := (rdB_some r7).2
  have lnu := unB_lt ln
  rw [lnl] at lnu
  have wln : IntKind.i64.wrap (unB ln : Int) = ((unB ln : Nat) : Int) := by exact wrap_i64 (by omega) (by omega)
  refine Rg (fun E K hE hK => ?_)
  refine Us (number_rd r7 (by decide) _ _ id ver (Nat.lt_succ_of_lt hid) (by exact Erf @hne)) body_40 ?_
  refine Evf (jn5 @wln @hne @hne' @hu1 @hu2) ?_
  refine hK _ _ _ ?_; clear hE hK K E
  refine Rk ?_
  refine AWP.ret ?_
  refine Ends.turn hn H hid (blk := rdV ver s7) (fun i (hi : i < b) => by simp [upd, show ¬ i = b by omega]) rfl (r0 := FlV ⟨nm, rk, unB su, unB bk, unB fr, unB ln⟩)
    (by rw [show Tryd.f41.results.toList = [.cell 2 32] from rfl]; exact Er) ?_ ⟨⟨nm, rk, unB su, unB bk, unB fr, unB ln⟩, s7, ?_, rfl, rfl⟩
  · exact frz_ps (encF _)
  · unfold readF
    simp only [r1, r2, r3, r4, r5, r6, r7, hof, Option.bind_some, ne_eq, not_true_eq_false, if_false]
end Go.Proofs.YthnhpbihgalgeaaDoor
