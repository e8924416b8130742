/-
  What Go's package strings does, over the abstract machine.
-/
import Derived.Test.YtengjcdilnikhaaDoorNmPure
import Derived.Test.YtengjcdilnikhaaDoorAmRange
import Derived.Test.YtengjcdilnikhaaDoorShelf
namespace Go.Proofs.YtengjcdilnikhaaDoor
set_option linter.unusedSimpArgs false
set_option linter.unusedVariables false
set_option linter.unnecessarySimpa false
open Go Am
set_option maxRecDepth 100000

abbrev bl (s : ByteArray) : List UInt8 := s.data.toList
abbrev StrB (s : ByteArray) : AV := .one (.p (.v (.string s)))

theorem vals_eq {ι : Nat → Nat} {h : Heap} {bd : Nat} {w : World} : ∀ (xs : List Value) {vs : List Value}, RAVs ι h bd w (xs.map fun x => .one (.p (.v x))) vs → vs = xs
  | [], [], _ => rfl
  | [], _ :: _, r => by have := r.1; simp at this
  | _ :: _, [], r => by have := r.1; simp at this
  | x :: xs, v :: vs, r => by
    have h1 : v = x := rav_v_inv (r.2 0 _ v rfl rfl)
    have h2 : vs = xs := vals_eq (ι := ι) (h := h) (bd := bd) (w := w) xs ⟨by have := r.1; simpa using this, fun i c u hc hu => r.2 (i + 1) c u (by simpa using hc) (by simpa using hu)⟩
    rw [h1, h2]

theorem ACalls.ofVals {P : Program} {f : FuncId} {xs : List Value} {h : Heap} {b : Nat} {v : Value} (hc : ∀ w, Calls P f xs.toArray w fun e w' => e = .returned v ∧ w' = w) :
    ACalls P f (xs.map fun x => .one (.p (.v x))) h b 0 (fun r' h' => r' = .one (.p (.v v)) ∧ h' = h) :=
  ACalls.ofBelow (fun ι w vs _ ha => by
    rw [vals_eq xs ha]
    refine (hc w).mono ?_
    rintro e w' ⟨rfl, rfl⟩
    exact ⟨v, rfl, RowKit.Below.refl _ _, rav_v _⟩)

theorem hasPrefix_ok (s p : ByteArray) (h : Heap) (b : Nat) : ACalls Tryd.prog 83 [StrB s, StrB p] h b 0 (fun r h' => r = BoolV ((bl p).isPrefixOf (bl s)) ∧ h' = h) :=
  ACalls.ofVals (xs := [.string s, .string p]) (fun w => Tryd.strings_HasPrefix s p w)


theorem index_ok (s : ByteArray) (h : Heap) (b : Nat) : ACalls Tryd.prog 139 [StrB s, StrB ⟨#[47]⟩] h b 0 (fun r h' => r = IntV (Lib.indexByte (bl s) 47) ∧ h' = h) :=
  ACalls.ofVals (xs := [.string s, .string ⟨#[47]⟩]) (fun w => Tryd.strings_Index_one s 47 w)

theorem count_ok (s : ByteArray) (h : Heap) (b : Nat) : ACalls Tryd.prog 138 [StrB s, StrB ⟨#[47]⟩] h b 0 (fun r h' => r = IntV (Lib.countByte (bl s) 47) ∧ h' = h) :=
  ACalls.ofVals (xs := [.string s, .string ⟨#[47]⟩]) (fun w => Tryd.strings_Count_one s 47 w)

theorem libJoin_eq : ∀ xs : List S, Lib.join xs [47] = joinS xs
  | [] => rfl
  | [p] => by simp [Lib.join, joinS]
  | p :: q :: r => by
    have := libJoin_eq (q :: r)
    simp only [Lib.join] at this ⊢
    rw [joinS_cons (by simp), ← this]
    simp [List.intercalate, List.intersperse]

theorem len_wt : ∀ ks : List S, ks.length ≤ wt ks
  | [] => Nat.le_refl _
  | k :: ks => by have := len_wt ks; simp only [wt, List.length_cons]; omega

/-- an own row of texts is joined -/
theorem join_ok {h : Heap} {b id ver cap : Nat} (ks : List S) (T : List Cell) (hne : ks ≠ []) (hb : h id = some ⟨ver, ks.map (fun k => Cell.p (.v (.string (mkS k)))) ++ T⟩) (hcap : ks.length ≤ cap) (hlen : (joinS ks).length ≤ 70368744177664) :
    ACalls Tryd.prog 108 [.one (.win id ver 0 ks.length cap), StrB ⟨#[47]⟩] h b 0 (fun r h' => r = StrV (joinS ks) ∧ h' = h) := by
  refine ACalls.ofBelow (fun ι w vs H ha => ?_)
  obtain ⟨hl, hv⟩ := ha
  match vs, hl with
  | [v0, v1], _ =>
    have r0 := hv 0 _ v0 rfl rfl
    have r1 := rav_v_inv (hv 1 _ v1 rfl rfl)
    subst r1
    have hlive : liveB h id ver = true := by unfold liveB; rw [hb]; simp
    obtain ⟨_, hX⟩ := win_inv r0 hlive
    have hne' : (⟨ver, ks.map (fun k => Cell.p (.v (.string (mkS k)))) ++ T⟩ : Blk).cells ≠ [] := by
      cases ks with
      | nil => exact absurd rfl hne
      | cons k ks => simp
    obtain ⟨c, ty, h1, h2, h3⟩ := H.blk id _ hb hne'
    have hlk : 0 < ks.length := List.length_pos_iff.2 hne
    rcases hX with rfl | ⟨_, h0, _⟩
    case inr => omega
    have hN : ks.length ≤ 140737488355328 := by
      have := joinS_wt hne
      have h4 := len_wt ks
      omega
    have hcells : ∀ (j : Nat) x, (ks.map mkS)[j]? = some x → w.cell? ⟨ι id, 0 + j, none⟩ = some (.string x) := by
      intro j x hx
      rw [List.getElem?_map] at hx
      cases hk : ks[j]? with
      | none => rw [hk] at hx; simp at hx
      | some k =>
        rw [hk] at hx
        simp at hx
        subst hx
        have hj : j < ks.length := (List.getElem?_eq_some_iff.1 hk).1
        have hd : (ks.map (fun k => Cell.p (.v (.string (mkS k)))) ++ T)[j]? = some (.p (.v (.string (mkS k)))) := by
          rw [List.getElem?_append_left (by simpa using hj), List.getElem?_map, hk]; rfl
        have hlt : j < c.size := by rw [h2]; simp; omega
        have hr := h3 j _ _ hd (Array.getElem?_eq_getElem hlt)
        have := rav_v_inv (.one hr)
        simp only [World.cell?, h1, Nat.zero_add, Array.getElem?_eq_getElem hlt, this]
        rfl
    have hj := Tryd.strings_Join (ι id) 0 cap (ks.map mkS) ⟨#[47]⟩ w hcells (H.lt hb hne') (by simpa using hN) (by simpa using hcap)
    have e1 : (ks.map mkS).map (·.data.toList) = ks := by
      rw [List.map_map]
      have : ((fun x : ByteArray => x.data.toList) ∘ mkS) = fun x => x := by funext x; rfl
      rw [this]; simp
    rw [e1] at hj
    have e2 : Lib.join ks (⟨#[47]⟩ : ByteArray).data.toList = joinS ks := libJoin_eq ks
    rw [e2] at hj
    have hj := hj (by omega)
    rw [List.length_map] at hj
    refine hj.mono ?_
    rintro e w' ⟨rfl, hB⟩
    exact ⟨_, rfl, hB, rav_v _⟩

end Go.Proofs.YtengjcdilnikhaaDoor
