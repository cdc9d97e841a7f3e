import Derived.Test.YtophgamjhngppaaDoorZ02CAA2E8
import Derived.Test.YtophgamjhngppaaDoorZ881F3962
import Derived.ChangeSlices
import Derived.ChangeArms
import Derived.Deep.Slices
import Derived.SizedLaws
import Derived.Test.YtophgamjhngppaaDoorRows
import Derived.ProofKit
import Derived.OpenShut
import Derived.LaidMore
import Derived.Lay
import Derived.ReadAgain
import Derived.Carry
import Derived.ShutString
import Derived.Stop.Joined
/- play: nothing. -/
namespace Chart
open Go Go.RowKit Go.Proofs
attribute [local go_sem ↓] Go.wp_at_zero Go.wp_at_succ

section
variable {w w' : World} {pp pc pr : Nat} {c c' : Cab} {r r' : RCab} {D E D' E' : Nat → Prop} {B : Nat}
set_option maxRecDepth 100000 in
set_option maxHeartbeats 4000000 in
theorem play_none (h : PairAt w pp c r pc pr D E) (hs : Sim B c r) (hB : B ≤ 80000) (s : StepS) (DV KV : Value) (hok : StepOk w s DV KV (fun k => D k ∨ E k)) (hlong : ¬ 1200000 < s.data.length) (hw : ¬ (0 ≤ s.what ∧ s.what ≤ 5) ∧ ¬ s.what = 6 ∧ ¬ s.what = 7) :
    Calls Tryd.prog 13 #[.pointer (some ⟨pp, 0, none⟩), stepV s DV KV] w fun e w' => e = .returned (.bool true) ∧ PlayPost w D E pp (c.act s) (r.act s) pc pr w' := by
  have hS0 := hs.act s hok.n1
  obtain ⟨what, old, name, data, n, keep, turn⟩ := s
  have hSA : Cab.act c ⟨what, old, name, data, n, keep, turn⟩ = Cab.act c ⟨what, old, name, data, n, keep, turn⟩ := rfl
  unfold stepV
  simp only at hok ⊢
  obtain ⟨_, DA, dc, rfl, hdc, hdm, _, _⟩ := id hok.data
  obtain ⟨_, KA, kc, rfl, hkc, hkm, _, _⟩ := id hok.keep
  have hbox := Blk.new w 38 #[.int .i64 what, .string (str old), .string (str name), .slice DA data.length dc, .int .i64 n, .slice KA keep.length kc, .int .u8 turn.toNat]
  have hfr0 : Fr (fun _ => False) w (w.alloc (.cells #[.int .i64 what, .string (str old), .string (str name), .slice DA data.length dc, .int .i64 n, .slice KA keep.length kc, .int .u8 turn.toNat] 38)) := (Fr.refl (fun _ => False) w).alloc _
  have h0 := h.fr hfr0 id (fun _ _ => id) fun _ _ => id
  have hlD : ∀ k, D k → k < w.heap.size := fun _ => h.cab.below
  have hlE : ∀ k, E k → k < w.heap.size := fun _ => h.ref.below
  have hP00 : PAfter w D E pp c r pc pr D E (w.alloc (.cells #[.int .i64 what, .string (str old), .string (str name), .slice DA data.length dc, .int .i64 n, .slice KA keep.length kc, .int .u8 turn.toNat] 38)) := ⟨h0, hfr0.mono fun _ _ h => h.elim, fun _ h => .inl h, fun _ h => .inl h⟩
  simp only at hlong hw
  have hl2 : ¬ (1200000 : Int) < (data.length : Int) := by omega
  obtain ⟨hw0, hw6, hw7⟩ := hw
  have e1 : Cab.act c ⟨what, old, name, data, n, keep, turn⟩ = c := by unfold Cab.act; simp only []; rw [if_neg hlong, if_neg hw0, if_neg hw6, if_neg hw7]
  have e2 : RCab.act r ⟨what, old, name, data, n, keep, turn⟩ = r := by unfold RCab.act; simp only []; rw [if_neg hlong, if_neg hw0, if_neg hw6, if_neg hw7]
  rw [e1, e2] at hS0
  rw [e1, e2]
  clear e1 e2 hSA
  have hS := hS0
  have hP := hP00
  by_cases hneg : what < 0
  · have hge : ¬ 0 ≤ what := by omega
    go_enter Tryd.func13, Tryd.ntmps13
    go_wp2_with fail
    generalize w.alloc (.cells #[.int .i64 what, .string (str old), .string (str name), .slice DA data.length dc, .int .i64 n, .slice KA keep.length kc, .int .u8 turn.toNat] 38) = V at *
    obtain ⟨X, hX⟩ : ∃ X, X = w.heap.size := ⟨_, rfl⟩
    rw [← hX] at hbox ⊢
    have HX := Lib.hid hX
    clear hX
    have x2 : V.cell? ⟨X, 2, none⟩ = some (.string (str name)) := hbox.cell 2
    have p0 : V.cell? ⟨pp, 0, none⟩ = some (.pointer (some ⟨pc, 0, none⟩)) := hP.at_.blk.cell 0
    have p1 : V.cell? ⟨pp, 1, none⟩ = some (.pointer (some ⟨pr, 0, none⟩)) := hP.at_.blk.cell 1
    have HREAD := Lib.hid (read_calls hP.at_.cab.drew name hok.name hS.nnow (fun f hf => (hS.all f hf).1))
    go_region_held3 (fun w' => w'.cell? ⟨pp, 0, none⟩ = some (.pointer (some ⟨pc, 0, none⟩)) ∧ w'.cell? ⟨X, 2, none⟩ = some (.string (str name))) (first | go_keep | exact ⟨fR.undrew.cell p0 id, fR.undrew.cell x2 id⟩) ((go_at_call 16; refine HREAD.out.mono ?_; rintro e wR ⟨vR, rfl, hbR, hnR, fR⟩))
    have hPR := hP.at_.fr fR.undrew id (fun _ _ => id) fun _ _ => id
    have p1R : wR.cell? ⟨pp, 1, none⟩ = some (.pointer (some ⟨pr, 0, none⟩)) := hPR.blk.cell 1
    have x2R : wR.cell? ⟨X, 2, none⟩ = some (.string (str name)) := fR.undrew.cell x2 id
    have hrr := fun m : Nat => RefAt.read (hPR.ref.drewN m) name (hS.num (by omega)).nows
    simp only [hS.read] at hrr
    have HRR := Lib.hid hrr
    clear hrr p0 p1 x2
    go_wp2_with fail
    go_quiet ((go_at_call 38; exact (HRR.out _).mono fun _ _ h => ⟨h.1, _, h.2.symm⟩))
    have hP2 := hPR.fr ((Fr.refl (fun _ => False) wR).drewN nq) id (fun _ _ => id) fun _ _ => id
    have HBR := Lib.hid (hbR.drewN nq)
    have HF2 := Lib.hid (fR.undrew.drewN nq)
    clear hPR p1R x2R HRR hbR fR
    generalize wR.drewN nq = V2 at *
    have p0 : V2.cell? ⟨pp, 0, none⟩ = some (.pointer (some ⟨pc, 0, none⟩)) := hP2.blk.cell 0
    have p1 : V2.cell? ⟨pp, 1, none⟩ = some (.pointer (some ⟨pr, 0, none⟩)) := hP2.blk.cell 1
    have HNM := Lib.hid (fun (w' : World) (hf : Fr (fun _ => False) V2 w') => by have := RefAt.namesOf (hP2.ref.fr hf fun _ _ => id) (Nat.le_trans (hS.num (by omega)).now (by decide)); rw [hS.namesSame] at this; exact this)
    have HUC := Lib.hid (fun (w' : World) (hf : Fr (fun _ => False) V2 w') => CabAt.used (hP2.cab.fr hf fun _ _ => id) (fun f hf => (hS.all f hf).1) (Nat.le_trans hS.b1 (by omega)))
    have HUR := Lib.hid (fun (w' : World) (hf : Fr (fun _ => False) V2 w') => by have := RefAt.used (hP2.ref.fr hf fun _ _ => id) (hS.num (by omega)); rw [hS.used] at this; exact this)
    have HQ := Lib.hid (fun (w' : World) (hf : Fr (fun _ => False) V2 w') => by have := RefAt.quota (hP2.ref.fr hf fun _ _ => id); rw [hS.quota] at this; exact this)
    go_wp2_with (first
      | (go_at_call 17; refine (names_calls hP2.cab (Nat.le_trans hS.b3 (by omega))).mono ?_; rintro e wN ⟨vN, rfl, hrN, hnN, fN⟩; have p0N := fN.cell p0 id; have p1N := fN.cell p1 id)
      | (go_at_call 39; refine (HNM.out wN fN).mono ?_; rintro e wM ⟨vM, rfl, hrM, hnM, fM0⟩; have fM := fN.trans fM0 (fun _ h => h.elim); have p0M := fM.cell p0 id; have p1M := fM.cell p1 id)
      | (go_at_call 18; refine (HUC.out wM fM).mono ?_; rintro e wU ⟨rfl, fU0⟩; have fU := fM.trans fU0 (fun _ h => h.elim); have kt := text_of (HBR.out.fr fU fun _ _ => id).src; have p1U := fU.cell p1 id)
      | (go_at_call 40; refine (texts_calls vN vM _ _ wU (hrN.fr (fM0.trans fU0 fun _ h => h.elim) fun _ _ => id) (hrM.fr fU0 fun _ _ => id)).mono ?_; rintro e wT ⟨rfl, fT0⟩; have fT := fU.trans fT0 (fun _ h => h.elim); have p1T := fT.cell p1 id)
      | (go_at_call 41; refine (HUR.out wT fT).mono ?_; rintro e wZ ⟨rfl, fZ0⟩; have fZ := fT.trans fZ0 (fun _ h => h.elim); have p1Z := fZ.cell p1 id; have q0Z := HQ.out wZ fZ))
    go_ret
    exact ⟨rfl, _, _, ⟨hP2.fr fZ id (fun _ _ => id) fun _ _ => id, (hP.fr.trans HF2.out fun _ h => h.elim).trans fZ fun _ h => h.elim, hP.newD, hP.newE⟩⟩
  · have hge : 0 ≤ what := by omega
    have hge5 : ¬ what ≤ 5 := by omega
    go_enter Tryd.func13, Tryd.ntmps13
    go_wp2_with fail
    generalize w.alloc (.cells #[.int .i64 what, .string (str old), .string (str name), .slice DA data.length dc, .int .i64 n, .slice KA keep.length kc, .int .u8 turn.toNat] 38) = V at *
    obtain ⟨X, hX⟩ : ∃ X, X = w.heap.size := ⟨_, rfl⟩
    rw [← hX] at hbox ⊢
    have HX := Lib.hid hX
    clear hX
    have x2 : V.cell? ⟨X, 2, none⟩ = some (.string (str name)) := hbox.cell 2
    have p0 : V.cell? ⟨pp, 0, none⟩ = some (.pointer (some ⟨pc, 0, none⟩)) := hP.at_.blk.cell 0
    have p1 : V.cell? ⟨pp, 1, none⟩ = some (.pointer (some ⟨pr, 0, none⟩)) := hP.at_.blk.cell 1
    have HREAD := Lib.hid (read_calls hP.at_.cab.drew name hok.name hS.nnow (fun f hf => (hS.all f hf).1))
    go_region_held3 (fun w' => w'.cell? ⟨pp, 0, none⟩ = some (.pointer (some ⟨pc, 0, none⟩)) ∧ w'.cell? ⟨X, 2, none⟩ = some (.string (str name))) (first | go_keep | exact ⟨fR.undrew.cell p0 id, fR.undrew.cell x2 id⟩) ((go_at_call 16; refine HREAD.out.mono ?_; rintro e wR ⟨vR, rfl, hbR, hnR, fR⟩))
    have hPR := hP.at_.fr fR.undrew id (fun _ _ => id) fun _ _ => id
    have p1R : wR.cell? ⟨pp, 1, none⟩ = some (.pointer (some ⟨pr, 0, none⟩)) := hPR.blk.cell 1
    have x2R : wR.cell? ⟨X, 2, none⟩ = some (.string (str name)) := fR.undrew.cell x2 id
    have hrr := fun m : Nat => RefAt.read (hPR.ref.drewN m) name (hS.num (by omega)).nows
    simp only [hS.read] at hrr
    have HRR := Lib.hid hrr
    clear hrr p0 p1 x2
    go_wp2_with fail
    go_quiet ((go_at_call 38; exact (HRR.out _).mono fun _ _ h => ⟨h.1, _, h.2.symm⟩))
    have hP2 := hPR.fr ((Fr.refl (fun _ => False) wR).drewN nq) id (fun _ _ => id) fun _ _ => id
    have HBR := Lib.hid (hbR.drewN nq)
    have HF2 := Lib.hid (fR.undrew.drewN nq)
    clear hPR p1R x2R HRR hbR fR
    generalize wR.drewN nq = V2 at *
    have p0 : V2.cell? ⟨pp, 0, none⟩ = some (.pointer (some ⟨pc, 0, none⟩)) := hP2.blk.cell 0
    have p1 : V2.cell? ⟨pp, 1, none⟩ = some (.pointer (some ⟨pr, 0, none⟩)) := hP2.blk.cell 1
    have HNM := Lib.hid (fun (w' : World) (hf : Fr (fun _ => False) V2 w') => by have := RefAt.namesOf (hP2.ref.fr hf fun _ _ => id) (Nat.le_trans (hS.num (by omega)).now (by decide)); rw [hS.namesSame] at this; exact this)
    have HUC := Lib.hid (fun (w' : World) (hf : Fr (fun _ => False) V2 w') => CabAt.used (hP2.cab.fr hf fun _ _ => id) (fun f hf => (hS.all f hf).1) (Nat.le_trans hS.b1 (by omega)))
    have HUR := Lib.hid (fun (w' : World) (hf : Fr (fun _ => False) V2 w') => by have := RefAt.used (hP2.ref.fr hf fun _ _ => id) (hS.num (by omega)); rw [hS.used] at this; exact this)
    have HQ := Lib.hid (fun (w' : World) (hf : Fr (fun _ => False) V2 w') => by have := RefAt.quota (hP2.ref.fr hf fun _ _ => id); rw [hS.quota] at this; exact this)
    go_wp2_with (first
      | (go_at_call 17; refine (names_calls hP2.cab (Nat.le_trans hS.b3 (by omega))).mono ?_; rintro e wN ⟨vN, rfl, hrN, hnN, fN⟩; have p0N := fN.cell p0 id; have p1N := fN.cell p1 id)
      | (go_at_call 39; refine (HNM.out wN fN).mono ?_; rintro e wM ⟨vM, rfl, hrM, hnM, fM0⟩; have fM := fN.trans fM0 (fun _ h => h.elim); have p0M := fM.cell p0 id; have p1M := fM.cell p1 id)
      | (go_at_call 18; refine (HUC.out wM fM).mono ?_; rintro e wU ⟨rfl, fU0⟩; have fU := fM.trans fU0 (fun _ h => h.elim); have kt := text_of (HBR.out.fr fU fun _ _ => id).src; have p1U := fU.cell p1 id)
      | (go_at_call 40; refine (texts_calls vN vM _ _ wU (hrN.fr (fM0.trans fU0 fun _ h => h.elim) fun _ _ => id) (hrM.fr fU0 fun _ _ => id)).mono ?_; rintro e wT ⟨rfl, fT0⟩; have fT := fU.trans fT0 (fun _ h => h.elim); have p1T := fT.cell p1 id)
      | (go_at_call 41; refine (HUR.out wT fT).mono ?_; rintro e wZ ⟨rfl, fZ0⟩; have fZ := fT.trans fZ0 (fun _ h => h.elim); have p1Z := fZ.cell p1 id; have q0Z := HQ.out wZ fZ))
    go_ret
    exact ⟨rfl, _, _, ⟨hP2.fr fZ id (fun _ _ => id) fun _ _ => id, (hP.fr.trans HF2.out fun _ h => h.elim).trans fZ fun _ h => h.elim, hP.newD, hP.newE⟩⟩
end
end Chart

/- play: a call, and what is to be seen behind it. -/
namespace Chart
open Go Go.RowKit Go.Proofs
attribute [local go_sem ↓] Go.wp_at_zero Go.wp_at_succ

section
variable {w w' : World} {pp pc pr : Nat} {c c' : Cab} {r r' : RCab} {D E D' E' : Nat → Prop} {B : Nat}
theorem play_calls (h : PairAt w pp c r pc pr D E) (hs : Sim B c r) (hB : B ≤ 80000) (s : StepS) (DV KV : Value) (hok : StepOk w s DV KV (fun k => D k ∨ E k)) :
    Calls Tryd.prog 13 #[.pointer (some ⟨pp, 0, none⟩), stepV s DV KV] w fun e w' => e = .returned (.bool true) ∧ PlayPost w D E pp (c.act s) (r.act s) pc pr w' := by
  by_cases hlong : 1200000 < s.data.length
  · exact play_long h hs hB s DV KV hok hlong
  by_cases h5 : 0 ≤ s.what ∧ s.what ≤ 5
  · exact play_chg h hs hB s DV KV hok hlong h5
  by_cases h6 : s.what = 6
  · exact play_fail h hs hB s DV KV hok hlong h6
  by_cases h7 : s.what = 7
  · exact play_crash h hs hB s DV KV hok hlong h7
  exact play_none h hs hB s DV KV hok hlong ⟨h5, h6, h7⟩
end
end Chart

/- Arguments, opened: bytes, numbers, texts, slices of anything, structs; what their sizes bear. Of whatever program. -/
namespace Chart
open Go Go.RowKit Go.ChangeShapes Go.WideShapes

/-- Whatever an argument of type t is read from is good. -/
def Reads (P : Program) (w : World) (t : TypeId) (good : List Value → Prop) : Prop :=
  ∀ (H : Type) (enc : TypeId × Value → H) (fuel : Nat) (cs : List Value) (x : DataW H × List MemPlace), DataW.trod enc P w 0 (fun _ => true) true fuel t cs = some x →
    (∀ n ∈ x.1.weights P t, n ≤ reachBytes) → good cs

section
variable {P : Program} {w : World} {t e : TypeId} {good : List Value → Prop}
theorem Reads.mono (h : Reads P w t good) {good' : List Value → Prop} (k : ∀ cs, good cs → good' cs) : Reads P w t good' := fun H enc f cs x hx hn => k cs (h H enc f cs x hx hn)
theorem reads_bool (ht : P.underlying t = some .bool) : Reads P w t fun cs => ∃ b, cs = [.bool b] := fun H enc f cs x hx _ => by
  obtain ⟨b, rfl, _⟩ := DataW.trod_bool ht hx
  exact ⟨b, rfl⟩
theorem reads_int {k : IntKind} (ht : P.underlying t = some (.int k)) : Reads P w t fun cs => ∃ n, cs = [.int k n] ∧ (Lit.int k n).wf = true := fun H enc f cs x hx _ => by
  obtain ⟨n, rfl, _, h⟩ := DataW.trod_int ht hx
  exact ⟨n, rfl, h⟩
theorem reads_string (ht : P.underlying t = some .string) : Reads P w t fun cs => ∃ s : ByteArray, cs = [.string s] ∧ s.size ≤ reachBytes := fun H enc f cs x hx hn => by
  obtain ⟨s, rfl, rfl, _⟩ := DataW.trod_string ht hx
  refine ⟨s, rfl, ?_⟩
  have := hn s.data.toList.length (by simp [DataW.weights])
  simpa using this

/-- A slice at whose places there are good cells. -/
def Many (w : World) (size bytes : Nat) (good : List Value → Prop) (cs : List Value) : Prop :=
  ∃ A n c, cs = [.slice A n c] ∧ n ≤ c ∧ c ≤ maxLen ∧ c * bytes ≤ reachBytes ∧ (A = none → n = 0 ∧ c = 0) ∧
    ∀ a, A = some a → ∀ i, i < n → ∃ xs : List Value, xs.length = size ∧ good xs ∧ ∀ j u, xs[j]? = some u → w.cell? (a.add (i * size + j)) = some u

theorem weightsAll_mem {H : Type} {P : Program} {e : TypeId} {d : DataW H} : ∀ {l : List (DataW H)}, d ∈ l → ∀ n ∈ d.weights P e, n ∈ DataW.weightsAll P e l
  | y :: r, hd, n, hn => by
    unfold DataW.weightsAll
    rcases List.mem_cons.1 hd with rfl | hd
    · exact List.mem_append_left _ hn
    · exact List.mem_append_right _ (weightsAll_mem hd n hn)
theorem reads_slice (ht : P.underlying t = some (.slice e)) (h : Reads P w e good) (size bytes : Nat) (hs : P.cellsOf e = size) (hb : P.bytesOf e = bytes) : Reads P w t (Many w size bytes good) := fun H enc f cs x hx hn => by
  subst hs hb
  rcases Deep.open_slice ht hx with ⟨rfl, rfl⟩ | ⟨a, len, cap, m, n, D, Pl, rfl, _, hl, hm, hmm, rfl, hel⟩
  · exact ⟨none, 0, 0, rfl, Nat.le_refl _, Nat.zero_le _, by simp, fun _ => ⟨rfl, rfl⟩, fun _ h => by cases h⟩
  · simp only [if_true] at hmm
    subst hmm
    refine ⟨some a, len, m, rfl, hl, hm, ?_, (fun h => by cases h), fun a' ha i hi => ?_⟩
    · have := hn ((len + (m - len)) * P.bytesOf e) (by simp [DataW.weights, ht])
      rwa [Nat.add_sub_cancel' hl] at this
    · cases ha
      obtain ⟨cs', h1, h2⟩ := hel i (by omega)
      obtain ⟨_, h3, h4⟩ := World.cells?_some h1
      refine ⟨cs', h3, h H enc n cs' _ h2 fun k hk => hn k ?_, fun j u hu => ?_⟩
      · simp only [DataW.weights, ht]
        exact List.mem_cons_of_mem _ (List.mem_append_left _ (weightsAll_mem (List.mem_map.2 ⟨i, List.mem_range.2 hi, rfl⟩) k hk))
      · have hj : j < P.cellsOf e := by
          have := (List.getElem?_eq_some_iff.1 hu).1
          omega
        have := h4 j hj
        rw [← Deep.add_add, this]
        exact hu
theorem weightsEach_mem {H : Type} {P : Program} : ∀ {ts : List TypeId} {ds : List (DataW H)} {j : Nat} {t : TypeId} {d : DataW H}, ts[j]? = some t → ds[j]? = some d → ∀ n ∈ d.weights P t, n ∈ DataW.weightsEach P ts ds := fun h1 h2 => DataW.weights_mem_each h1 h2
/-- A field of a struct: its cells are good. -/
theorem reads_field {fs : Array Field} (ht : P.underlying t = some (.struct fs)) {i : Nat} {fd : Field} (hf : fs[i]? = some fd) (h : Reads P w fd.type good) (n : Nat) (hn : P.cellsOf fd.type = n) : Reads P w t fun cs => good ((cs.drop fd.offset).take n) := fun H enc f cs x hx hw => by
  subst hn
  obtain ⟨xs, m, rfl, rfl, _, hl, hel⟩ := DataW.trod_struct ht hx
  have h1 := hel i fd hf
  have hi : i < xs.length := by
    have := (Array.getElem?_eq_some_iff.1 hf).1
    omega
  rw [List.getElem?_eq_getElem hi] at h1
  refine h H enc m _ _ h1 fun k hk => hw k ?_
  simp only [DataW.weights, ht]
  refine DataW.weights_mem_each (j := i) (t := fd.type) (d := (xs[i]).1) ?_ ?_ k hk
  · rw [List.getElem?_map, Array.getElem?_toList, hf]
    rfl
  · rw [List.getElem?_map, List.getElem?_eq_getElem hi]
    rfl
theorem reads_size {fs : Array Field} (ht : P.underlying t = some (.struct fs)) : Reads P w t fun cs => cs.length = P.cellsOf t := fun H enc f cs x hx _ => by
  obtain ⟨xs, m, rfl, rfl, h, _, _⟩ := DataW.trod_struct ht hx
  exact h
theorem Reads.and {good' : List Value → Prop} (h : Reads P w t good) (k : Reads P w t good') : Reads P w t fun cs => good cs ∧ good' cs := fun H enc f cs x hx hn => ⟨h H enc f cs x hx hn, k H enc f cs x hx hn⟩
end

theorem reads_arg {H : Type} {enc : TypeId × Value → H} {P : Program} {w : World} {t : TypeId} {good : List Value → Prop} (hr : Reads P w t good) {v : Value} {d : DataW H} {p : List MemPlace} (h : DataW.Trod enc P w 0 (fun _ => true) true t v d p)
    {ts : List TypeId} {ds : List (DataW H)} (hsz : (DataW.weightsEach P ts ds).all (· ≤ reachBytes) = true) {j : Nat} (ht : ts[j]? = some t) (hd : ds[j]? = some d) : good v.cells.toList := by
  obtain ⟨f, hf⟩ := h
  exact hr H enc f _ _ hf fun n hn => by simpa using List.all_eq_true.1 hsz n (DataW.weights_mem_each ht hd n hn)
theorem slice_cells {A : Option Addr} {n c : Nat} : (Value.slice A n c).cells.toList = [.slice A n c] := rfl

/-- A later cell of an element, as a walk spells it. -/
theorem add_field (a : Addr) (m j : Nat) (h : 0 < j) : a.add (m + j) = ⟨(a.add m).block, (a.add m).off + j, none⟩ := by
  unfold Addr.add
  by_cases hm : m = 0
  · subst hm
    rw [if_neg (by omega), if_pos rfl, Nat.zero_add]
  · rw [if_neg (by omega), if_neg hm]
    simp [Nat.add_assoc]

/-! ### Numbers -/
theorem many_ints {w : World} {k : IntKind} {bytes : Nat} {cs : List Value} (h : Many w 1 bytes (fun cs => ∃ n, cs = [.int k n] ∧ (Lit.int k n).wf = true) cs) :
    ∃ (v : Value) (zs : List Int), cs = [v] ∧ Src w 1 v zs.length (zs.map (Value.int k)) ∧ (∀ n ∈ zs, (Lit.int k n).wf = true) ∧ zs.length * bytes ≤ reachBytes ∧ ∀ q, v.ownBlock = some q → 0 < zs.length → q < w.heap.size := by
  obtain ⟨A, n, c, rfl, h1, h2, h3, h4, h5⟩ := h
  cases A with
  | none =>
    obtain ⟨rfl, rfl⟩ := h4 rfl
    exact ⟨_, [], rfl, Src.nil w 1, by simp, by simp, fun q hq => by simp [Value.ownBlock] at hq⟩
  | some a =>
    have hex : ∀ i, i < n → ∃ z : Int, w.cell? (a.add i) = some (.int k z) ∧ (Lit.int k z).wf = true := fun i hi => by
      obtain ⟨xs, _, ⟨z, rfl, hz⟩, h6⟩ := h5 a rfl i hi
      exact ⟨z, by have := h6 0 _ rfl; simpa using this, hz⟩
    obtain ⟨Z, hZ⟩ := Deep.choose_lt hex
    refine ⟨_, (List.range n).map Z, rfl, ⟨by simp, some a, c, by simp, by simpa using h1, h2, (fun h => by cases h), fun a' ha j u hu => ?_⟩, fun z hz => ?_, ?_, fun q hq h0 => ?_⟩
    · cases ha
      have hj : j < n := by
        have := (List.getElem?_eq_some_iff.1 hu).1
        simpa using this
      rw [List.getElem?_map, List.getElem?_map, List.getElem?_range hj] at hu
      simp at hu
      subst hu
      exact (hZ j hj).1
    · rw [List.mem_map] at hz
      obtain ⟨i, hi, rfl⟩ := hz
      exact (hZ i (List.mem_range.1 hi)).2
    · have : n * bytes ≤ c * bytes := Nat.mul_le_mul_right _ h1
      simp
      omega
    · simp at h0
      have := World.block_lt_of_cell? w _ (hZ 0 h0).1
      rw [Chart.block_add] at this
      simp [Value.ownBlock] at hq
      omega
end Chart

/- The argument 'steps': what it reads as. -/
namespace Chart
open Go Go.RowKit Go.Proofs

/-- Bytes that came in. -/
theorem many_bytes {w : World} {cs : List Value} (h : Many w 1 1 (fun cs => ∃ n, cs = [.int .u8 n] ∧ (Lit.int .u8 n).wf = true) cs) :
    ∃ (v : Value) (l : Txt), cs = [v] ∧ BytesSrc w v l ∧ l.length ≤ reachBytes ∧ ∀ q, v.ownBlock = some q → 0 < l.length → q < w.heap.size := by
  obtain ⟨v, zs, rfl, h1, h2, h3, h4⟩ := many_ints h
  have e : zs.map (Value.int .u8) = bytesV (zs.map fun n => UInt8.ofNat n.toNat) := by
    unfold bytesV bv
    rw [List.map_map]
    refine List.map_congr_left fun n hn => ?_
    have hb := bounds_u8 (h2 n hn)
    simp only [Function.comp, UInt8.toNat_ofNat']
    congr 1
    omega
  refine ⟨v, zs.map fun n => UInt8.ofNat n.toNat, rfl, ?_, by simpa using h3, fun q hq h0 => h4 q hq (by simpa using h0)⟩
  unfold BytesSrc
  rw [← e, List.length_map]
  exact h1

theorem int_reads (w : World) : Reads Tryd.prog w 3 fun cs => ∃ n, cs = [.int .i64 n] ∧ (Lit.int .i64 n).wf = true := reads_int Tryd.underlying3
theorem u8_reads (w : World) : Reads Tryd.prog w 5 fun cs => ∃ n, cs = [.int .u8 n] ∧ (Lit.int .u8 n).wf = true := reads_int Tryd.underlying5
theorem string_reads (w : World) : Reads Tryd.prog w 9 fun cs => ∃ s : ByteArray, cs = [.string s] ∧ s.size ≤ reachBytes := reads_string Tryd.underlying9
theorem bytes_reads (w : World) : Reads Tryd.prog w 35 fun cs => ∃ (v : Value) (l : Txt), cs = [v] ∧ BytesSrc w v l ∧ l.length ≤ reachBytes ∧ ∀ q, v.ownBlock = some q → 0 < l.length → q < w.heap.size :=
  (reads_slice Tryd.underlying35 (u8_reads w) 1 1 (by kernel_rfl) (by kernel_rfl)).mono fun _ h => many_bytes h
theorem ints_reads (w : World) : Reads Tryd.prog w 36 fun cs => ∃ (v : Value) (zs : List Int), cs = [v] ∧ Src w 1 v zs.length (zs.map (Value.int .i64)) ∧ (∀ n ∈ zs, (Lit.int .i64 n).wf = true) ∧ zs.length * 8 ≤ reachBytes ∧ ∀ q, v.ownBlock = some q → 0 < zs.length → q < w.heap.size :=
  (reads_slice Tryd.underlying36 (int_reads w) 1 8 (by kernel_rfl) (by kernel_rfl)).mono fun _ h => many_ints h

/-- What stands in a Step's cells. -/
def StepCells (w : World) (cs : List Value) : Prop := ∃ (s : StepS) (DV KV : Value), cs = [.int .i64 s.what, .string (str s.old), .string (str s.name), DV, .int .i64 s.n, KV, .int .u8 s.turn.toNat] ∧ StepOk w s DV KV (fun k => w.heap.size ≤ k)
theorem reach_le {n : Nat} (h : n ≤ reachBytes) : n ≤ maxLen := by
  have : reachBytes ≤ maxLen := by decide
  omega
set_option maxRecDepth 20000 in
theorem step_reads (w : World) : Reads Tryd.prog w 38 (StepCells w) := by
  have U := Tryd.underlying38
  have hsz : Tryd.prog.cellsOf 38 = 7 := by kernel_rfl
  have h0 := reads_field (i := 0) U (by rfl) (int_reads w) 1 (by kernel_rfl)
  have h1 := reads_field (i := 1) U (by rfl) (string_reads w) 1 (by kernel_rfl)
  have h2 := reads_field (i := 2) U (by rfl) (string_reads w) 1 (by kernel_rfl)
  have h3 := reads_field (i := 3) U (by rfl) (bytes_reads w) 1 (by kernel_rfl)
  have h4 := reads_field (i := 4) U (by rfl) (int_reads w) 1 (by kernel_rfl)
  have h5 := reads_field (i := 5) U (by rfl) (ints_reads w) 1 (by kernel_rfl)
  have h6 := reads_field (i := 6) U (by rfl) (u8_reads w) 1 (by kernel_rfl)
  refine ((((((((reads_size U).and h0).and h1).and h2).and h3).and h4).and h5).and h6).mono fun cs hcs => ?_
  obtain ⟨⟨⟨⟨⟨⟨⟨hl, k0⟩, k1⟩, k2⟩, k3⟩, k4⟩, k5⟩, k6⟩ := hcs
  rw [hsz] at hl
  match cs, hl with
  | [c0, c1, c2, c3, c4, c5, c6], _ =>
    replace k0 : ∃ n, [c0] = [Value.int .i64 n] ∧ (Lit.int .i64 n).wf = true := k0
    replace k1 : ∃ s : ByteArray, [c1] = [Value.string s] ∧ s.size ≤ reachBytes := k1
    replace k2 : ∃ s : ByteArray, [c2] = [Value.string s] ∧ s.size ≤ reachBytes := k2
    replace k3 : ∃ (v : Value) (l : Txt), [c3] = [v] ∧ BytesSrc w v l ∧ l.length ≤ reachBytes ∧ ∀ q, v.ownBlock = some q → 0 < l.length → q < w.heap.size := k3
    replace k4 : ∃ n, [c4] = [Value.int .i64 n] ∧ (Lit.int .i64 n).wf = true := k4
    replace k5 : ∃ (v : Value) (zs : List Int), [c5] = [v] ∧ Src w 1 v zs.length (zs.map (Value.int .i64)) ∧ (∀ n ∈ zs, (Lit.int .i64 n).wf = true) ∧ zs.length * 8 ≤ reachBytes ∧ ∀ q, v.ownBlock = some q → 0 < zs.length → q < w.heap.size := k5
    replace k6 : ∃ n, [c6] = [Value.int .u8 n] ∧ (Lit.int .u8 n).wf = true := k6
    simp only [List.cons.injEq, and_true] at k0 k1 k2 k3 k4 k5 k6
    obtain ⟨what, rfl, _⟩ := k0
    obtain ⟨old, rfl, ho⟩ := k1
    obtain ⟨name, rfl, hn⟩ := k2
    obtain ⟨DV, data, rfl, hd, _, hdb⟩ := k3
    obtain ⟨n, rfl, hn4⟩ := k4
    obtain ⟨KV, keep, rfl, hk, _, hkb, hkq⟩ := k5
    obtain ⟨t, rfl, ht⟩ := k6
    obtain ⟨o, rfl⟩ := str_ex old
    obtain ⟨m, rfl⟩ := str_ex name
    rw [str_size] at ho hn
    have bn := bounds_i64 hn4
    have bt := bounds_u8 ht
    have hr : reachBytes ≤ 140737488355328 := by decide
    refine ⟨⟨what, o, m, data, n, keep, UInt8.ofNat t.toNat⟩, c3, c5, ?_, hd, hk, fun k hk h0 => ?_, fun k hk h0 => ?_, reach_le ho, reach_le hn, bn.1, bn.2, by show keep.length * 8 ≤ _; omega⟩
    · have e : ((UInt8.ofNat t.toNat).toNat : Int) = t := by
        rw [UInt8.toNat_ofNat']
        omega
      rw [e]
    · have := hdb k hk h0
      omega
    · have := hkq k hk h0
      omega
/-- The steps, in memory. -/
def StepsAt (w : World) (v : Value) (n : Nat) : Prop := Many w 7 104 (StepCells w) [v] ∧ ∃ A c, v = .slice A n c
theorem steps_reads (w : World) : Reads Tryd.prog w 22 (Many w 7 104 (StepCells w)) :=
  reads_slice Tryd.underlying22 (step_reads w) 7 104 (by kernel_rfl) (by kernel_rfl)
end Chart

/- The game of two cabinets: what every call leaves; the room. -/
namespace Chart
open Go Go.RowKit Go.Proofs

/-- Two cabinets alike, in memory of the call's own; so many bytes are taken at most. -/
def GameAt (w0 w : World) (pp pc pr : Nat) (q : Int) (B : Nat) : Prop :=
  ∃ c r D E, PairAt w pp c r pc pr D E ∧ Sim B c r ∧ c.quota = q ∧ (c.used : Int) ≤ q ∧ (∀ k, D k → w0.heap.size ≤ k) ∧ (∀ k, E k → w0.heap.size ≤ k) ∧ w0.heap.size ≤ pp ∧ Fr (fun _ => False) w0 w

theorem StepOk.later {w0 w : World} {s : StepS} {DV KV : Value} {D E : Nat → Prop} (h : StepOk w0 s DV KV (fun k => w0.heap.size ≤ k)) (hf : Fr (fun _ => False) w0 w) (hD : ∀ k, D k → w0.heap.size ≤ k) (hE : ∀ k, E k → w0.heap.size ≤ k) : StepOk w s DV KV (fun k => D k ∨ E k) :=
  ⟨h.data.fr hf fun _ _ _ => id, h.keep.fr hf fun _ _ _ => id, fun k hk h0 e => h.dz k hk h0 (e.elim (hD k) (hE k)), fun k hk h0 e => h.kz k hk h0 (e.elim (hD k) (hE k)), h.old, h.name, h.n0, h.n1, h.kb⟩

theorem game_start (q : Int) (w0 w1 w2 : World) {pc pr : Nat} {D : Nat → Prop} {t : TypeId} (ht : t = 33) (h1 : 1 ≤ q) (h2 : q ≤ 1073741824) (hc : CabAt w1 pc (Cab.new q) D) (hD : ∀ k, D k → w0.heap.size ≤ k) (f1 : Fr (fun _ => False) w0 w1)
    (hr : RefIn w2 pr (RCab.new q) (.slice none 0 0) (.slice none 0 0) (.slice none 0 0) (.slice none 0 0)) (hp : pr = w1.heap.size) (f2 : Fr (fun _ => False) w1 w2) :
    GameAt w0 (w2.alloc (.cells #[.pointer (some ⟨pc, 0, none⟩), .pointer (some ⟨pr, 0, none⟩)] t)) w2.heap.size pc pr q 0 := by
  subst ht
  have f3 : Fr (fun _ => False) w2 (w2.alloc (.cells #[.pointer (some ⟨pc, 0, none⟩), .pointer (some ⟨pr, 0, none⟩)] 33)) := (Fr.refl _ _).alloc _
  have hlt : ∀ k, D k → k < w1.heap.size := fun k hk => hc.below hk
  have h12 := f2.size
  have h01 := f1.size
  have hown : ∀ k, RefOwn pr (.slice none 0 0) (.slice none 0 0) (.slice none 0 0) (.slice none 0 0) k → k = pr := by
    rintro k (rfl | hk | hk | hk | hk)
    · rfl
    all_goals simp [Value.ownBlock] at hk
  have hrl : pr < w2.heap.size := hr.lt _ (.inl rfl)
  have hra : RefAt w2 pr (RCab.new q) (· = pr) := ⟨_, _, _, _, hr, hown, fun k hk => by subst hk; exact hrl⟩
  refine ⟨Cab.new q, RCab.new q, D, (· = pr), ⟨Blk.new _ _ _, hc.fr (f2.trans f3 fun _ h => h.elim) fun _ _ => id, hra.fr f3 fun _ _ => id, fun k hk e => by have := hlt k hk; omega, fun e => by have := hlt _ e; omega, fun e => by omega⟩, Sim.start q h1 h2, rfl, ?_, hD, fun k hk => by omega, by omega, (f1.trans f2 fun _ h => h.elim).trans f3 fun _ h => h.elim⟩
  show ((Cab.new q).used : Int) ≤ q
  have : (Cab.new q).used = 0 := rfl
  omega

theorem game_play {w0 w : World} {pp pc pr : Nat} {q : Int} {B : Nat} (h : GameAt w0 w pp pc pr q B) (hB : B ≤ 80000) (hroom : ∀ (c : Cab) (r : RCab) (s : StepS), Sim B c r → (c.used : Int) ≤ c.quota → ((c.act s).used : Int) ≤ c.quota ∧ (c.act s).quota = c.quota)
    (s : StepS) (DV KV : Value) (hok : StepOk w0 s DV KV (fun k => w0.heap.size ≤ k)) :
    Calls Tryd.prog 13 #[.pointer (some ⟨pp, 0, none⟩), stepV s DV KV] w fun e w' => e = .returned (.bool true) ∧ GameAt w0 w' pp pc pr q (B + 2) := by
  obtain ⟨c, r, D, E, hP, hS, hq, hu, hD, hE, hpp, hf⟩ := h
  have h0 := hf.size
  refine (play_calls hP hS hB s DV KV (hok.later hf hD hE)).mono fun e w' ⟨he, D', E', hA⟩ => ⟨he, _, _, D', E', hA.at_, hS.act s hok.n1, ?_, ?_, ?_, ?_, hpp, ?_⟩
  · rw [(hroom c r s hS (by rw [hq]; exact hu)).2, hq]
  · have := (hroom c r s hS (by rw [hq]; exact hu)).1
    rw [hq] at this
    exact this
  · intro k hk
    rcases hA.newD k hk with h | h
    · exact hD k h
    · omega
  · intro k hk
    rcases hA.newE k hk with h | h
    · exact hE k h
    · omega
  · refine hf.trans hA.fr fun k hk => .inr ?_
    rcases hk with h | h
    · exact hD k h
    · exact hE k h
end Chart

/- The room of a cabinet: whatever is done, no more bytes are taken than there are. Plain data, no program in sight. -/
namespace Chart

def tot : List FileS → Nat
  | [] => 0
  | f :: r => f.all.length + tot r
theorem foldl_tot (l : List FileS) (n : Nat) : (l.map fun f => f.all.length).foldl (· + ·) n = n + tot l := by
  induction l generalizing n with
  | nil => rfl
  | cons f r ih =>
    rw [List.map_cons, List.foldl_cons, ih]
    simp only [tot]
    omega
theorem used_tot (c : Cab) : c.used = tot c.files := by unfold Cab.used; rw [foldl_tot]; omega
theorem tot_append (a b : List FileS) : tot (a ++ b) = tot a + tot b := by
  induction a with
  | nil => simp [tot]
  | cons f r ih => rw [List.cons_append]; simp only [tot, ih]; omega
theorem tot_set (l : List FileS) (n : Nat) (f : FileS) (h : n < l.length) : tot (l.set n f) + (l.getD n ⟨[], 0⟩).all.length = tot l + f.all.length := by
  induction l generalizing n with
  | nil => simp at h
  | cons y r ih =>
    cases n with
    | zero => simp only [List.set_cons_zero, tot, List.getD_cons_zero]; omega
    | succ n =>
      simp only [List.length_cons] at h
      have := ih n (by omega)
      simp only [List.set_cons_succ, tot, List.getD_cons_succ]
      omega
theorem tot_set_le (l : List FileS) (n : Nat) (f : FileS) (hf : f.all.length ≤ (l.getD n ⟨[], 0⟩).all.length) : tot (l.set n f) ≤ tot l := by
  by_cases h : n < l.length
  · have := tot_set l n f h
    omega
  · rw [List.set_eq_of_length_le (by omega)]
    exact Nat.le_refl _
theorem tot_forget (F : Folder) : ∀ (l : List FileS) (i : Nat), tot (Cab.forget F i l) ≤ tot l
  | [], _ => Nat.le_refl _
  | f :: r, i => by
    have := tot_forget F r (i + 1)
    unfold Cab.forget
    split <;> simp only [tot, List.length_nil] <;> omega
theorem cut_le (f : FileS) (more : Int) (t : UInt8) : (Cab.cut f more t).all.length ≤ f.all.length := by
  unfold Cab.cut
  simp only
  split
  · rename_i h
    simp only [List.length_append, List.length_take, List.length_cons, List.length_nil]
    omega
  · simp only [List.length_take]
    omega
theorem tot_crash (now : Folder) (keep : List Int) (t : UInt8) : ∀ (ks : List Txt) (i : Nat) (fs : List FileS), tot (Cab.crashFiles now keep t ks i fs) ≤ tot fs
  | [], _, fs => Nat.le_refl _
  | k :: ks, i, fs => by
    unfold Cab.crashFiles
    exact Nat.le_trans (tot_crash now keep t ks (i + 1) _) (tot_set_le _ _ _ (cut_le _ _ _))

theorem used_spend (c : Cab) : c.spend.1.used = c.used ∧ c.spend.1.quota = c.quota ∧ c.spend.1.files = c.files := by
  unfold Cab.spend
  split
  · exact ⟨rfl, rfl, rfl⟩
  · split <;> exact ⟨rfl, rfl, rfl⟩
theorem used_rename (c : Cab) (x : Chg) : (c.rename x).used = c.used ∧ (c.rename x).quota = c.quota := ⟨rfl, rfl⟩

/-- No more is taken than there is. -/
structure Cab.Room (c c' : Cab) : Prop where
  used : (c'.used : Int) ≤ c.quota
  quota : c'.quota = c.quota
theorem find_lt_ {B : Nat} {c : Cab} {r : RCab} (h : Sim B c r) (k : Txt) (hk : (c.find k).2 = 0) : (c.find k).1 < c.files.length := by
  unfold Cab.find at hk ⊢
  split at hk
  · cases hk
  · rename_i h0
    rw [if_neg h0]
    cases hg : c.now.get? k with
    | none => rw [hg] at hk; cases hk
    | some n => exact h.nnow _ (mem_of_get hg)

section
variable {B : Nat} {c : Cab} {r : RCab}
theorem Sim.roomChg (h : Sim B c r) (hu : (c.used : Int) ≤ c.quota) (s : StepS) : Cab.Room c (c.chg s).1 := by
  obtain ⟨s1, s2, s3⟩ := used_spend c
  have same : Cab.Room c c := ⟨hu, rfl⟩
  have sp : Cab.Room c c.spend.1 := ⟨by rw [s1]; exact hu, s2⟩
  have keep : ∀ c' : Cab, c'.files = c.files → c'.quota = c.quota → Cab.Room c c' := fun c' e1 e2 => ⟨by rw [used_tot, e1, ← used_tot]; exact hu, e2⟩
  unfold Cab.chg
  split
  · unfold Cab.create
    split
    · exact same
    split
    · exact same
    split
    · exact same
    split
    · exact same
    simp only
    split
    · exact sp
    · refine ⟨?_, s2⟩
      rw [(used_rename _ _).1, used_tot]
      show ((tot (c.spend.1.files ++ [FileS.mk [] 0]) : Nat) : Int) ≤ c.quota
      rw [tot_append, s3, ← used_tot]
      simpa [tot] using hu
  split
  · unfold Cab.append
    simp only
    split
    · exact same
    rename_i hf
    split
    · exact same
    split
    · exact same
    rename_i hq
    split
    · exact sp
    · refine ⟨?_, s2⟩
      have hlt := find_lt_ h s.name (by omega)
      have key : ∀ f' : FileS, f'.all.length = (c.files.getD (c.find s.name).1 ⟨[], 0⟩).all.length + s.data.length → ((tot (c.files.set (c.find s.name).1 f') : Nat) : Int) ≤ c.quota := fun f' hf' => by
        have := tot_set c.files (c.find s.name).1 f' hlt
        rw [used_tot] at hq hu
        omega
      rw [used_tot]
      show ((tot (c.spend.1.files.set _ _) : Nat) : Int) ≤ c.quota
      rw [s3]
      exact key _ (by simp [Cab.file, s3])
  split
  · unfold Cab.sync
    simp only
    split
    · exact same
    rename_i hf
    split
    · exact sp
    · refine ⟨?_, s2⟩
      have key : ∀ f' : FileS, f'.all.length ≤ (c.files.getD (c.find s.name).1 ⟨[], 0⟩).all.length → ((tot (c.files.set (c.find s.name).1 f') : Nat) : Int) ≤ c.quota := fun f' hf' => by
        have := tot_set_le c.files (c.find s.name).1 f' hf'
        rw [used_tot] at hu
        omega
      rw [used_tot]
      show ((tot (c.spend.1.files.set _ _) : Nat) : Int) ≤ c.quota
      rw [s3]
      exact key _ (by simp [Cab.file, s3])
  split
  · unfold Cab.renameTo
    simp only
    split
    · exact same
    split
    · exact same
    split
    · exact sp
    · exact keep _ s3 s2
  split
  · unfold Cab.remove
    simp only
    split
    · exact same
    split
    · exact sp
    · exact keep _ s3 s2
  · unfold Cab.turn
    split
    · exact same
    simp only
    split
    · exact sp
    · refine ⟨?_, s2⟩
      rw [used_tot]
      have key : ∀ n1 : Folder, ((tot (Cab.forget n1 0 c.files) : Nat) : Int) ≤ c.quota := fun n1 => by
        have := tot_forget n1 c.files 0
        rw [used_tot] at hu
        omega
      show ((tot (Cab.forget _ 0 c.spend.1.files) : Nat) : Int) ≤ c.quota
      rw [s3]
      exact key _
theorem Sim.room (h : Sim B c r) (hu : (c.used : Int) ≤ c.quota) (s : StepS) : ((c.act s).used : Int) ≤ c.quota ∧ (c.act s).quota = c.quota := by
  unfold Cab.act
  split
  · exact ⟨hu, rfl⟩
  split
  · exact ⟨(h.roomChg hu s).used, (h.roomChg hu s).quota⟩
  split
  · exact ⟨hu, rfl⟩
  split
  · refine ⟨?_, rfl⟩
    have key : ∀ (n1 n2 : Folder) (ks : List Txt), ((tot (Cab.forget n1 0 (Cab.crashFiles n2 s.keep s.turn ks 0 c.files)) : Nat) : Int) ≤ c.quota := fun n1 n2 ks => by
      have h1 := tot_forget n1 (Cab.crashFiles n2 s.keep s.turn ks 0 c.files) 0
      have h2 := tot_crash n2 s.keep s.turn ks 0 c.files
      rw [used_tot] at hu
      omega
    rw [used_tot]
    exact key _ _ _
  · exact ⟨hu, rfl⟩
end
end Chart

/- CabinetPlays, CabinetRoom: the walks. -/
namespace Chart
open Go Go.RowKit Go.Proofs
attribute [local go_sem ↓] Go.wp_at_zero Go.wp_at_succ

set_option maxRecDepth 100000 in
set_option maxHeartbeats 4000000 in
theorem plays_calls (q : Int) (v : Value) (w : World) (hst : Many w 7 104 (StepCells w) [v]) :
    Calls Tryd.prog 3 #[.int .i64 q, v] w fun e w' => e = .returned (.bool true) ∧ Fr (fun _ => False) w w' := by
  obtain ⟨A, n, cap, hv, hn, hc, _, hA, hel⟩ := hst
  obtain rfl : v = .slice A n cap := by simpa using hv
  simp only [maxLen] at hc
  by_cases hq : q < 1 ∨ 1073741824 < q
  · have HN := Lib.hid (fun w => new_bad q w hq)
    have HR := Lib.hid (fun w => rnew_bad q w hq)
    clear hv
    go_enter Tryd.func3, Tryd.ntmps3
    go_wp2_with (first
      | (go_at_call 10; refine (HN.out _).mono ?_; rintro e w' ⟨rfl, rfl⟩)
      | (go_at_call 11; refine (HR.out _).mono ?_; rintro e w' ⟨rfl, rfl⟩)
      | (go_at_call 12; refine (awake_calls _).mono ?_; rintro e w1 ⟨rfl, f1⟩))
    go_ret
    exact ⟨rfl, f1⟩
  · have h1 : 1 ≤ q := by omega
    have h2 : q ≤ 1073741824 := by omega
    have HN := Lib.hid (fun w => new_calls q w h1 h2)
    have HR := Lib.hid (fun w => rnew_calls q w h1 h2)
    clear hv
    go_enter Tryd.func3, Tryd.ntmps3
    go_wp2_with (first
      | (go_at_call 10; refine (HN.out _).mono ?_; rintro e w1 ⟨rfl, ⟨D1, hc1, n1⟩, f1⟩)
      | (go_at_call 11; refine (HR.out _).mono ?_; rintro e w2 ⟨rfl, hr2, f2⟩))
    have HG := Lib.hid (game_start q w w1 w2 (t := 33) rfl h1 h2 hc1 n1 f1 hr2 rfl f2)
    go_loopw [10] (fun i wr => ∃ k : Nat, k ≤ n ∧ k ≤ 60 ∧ i = .int .i64 k ∧ GameAt w wr w2.heap.size (w.heap.size + 2) w1.heap.size q (2 * k)) (fun i _ => n - (RowKit.intOf i).toNat)
    case atStart => exact ⟨0, Nat.zero_le _, Nat.zero_le _, rfl, HG.out⟩
    case round =>
      obtain ⟨k, hk, hk60, rfl, hg⟩ := hrel
      have hgf : Fr (fun _ => False) w wr := by
        obtain ⟨_, _, _, _, _, _, _, _, _, _, _, h⟩ := hg
        exact h
      by_cases hlt : k < n ∧ k < 60
      · obtain ⟨hlt, h60⟩ := hlt
        obtain ⟨a, rfl⟩ : ∃ a, A = some a := by
          cases A with
          | none => have := (hA rfl).1; omega
          | some a => exact ⟨a, rfl⟩
        obtain ⟨xs, _, ⟨s, DV, KV, rfl, hok⟩, hcell⟩ := hel a rfl k hlt
        have hcw := fun j u hu => hgf.cell (hcell j u hu) id
        have c0 := hcw 0 _ rfl
        rw [Nat.add_zero] at c0
        have c1 := hcw 1 _ rfl
        rw [add_field _ _ 1 (by decide)] at c1
        have c2 := hcw 2 _ rfl
        rw [add_field _ _ 2 (by decide)] at c2
        have c3 := hcw 3 _ rfl
        rw [add_field _ _ 3 (by decide)] at c3
        have c4 := hcw 4 _ rfl
        rw [add_field _ _ 4 (by decide)] at c4
        have c5 := hcw 5 _ rfl
        rw [add_field _ _ 5 (by decide)] at c5
        have c6 := hcw 6 _ rfl
        rw [add_field _ _ 6 (by decide)] at c6
        have HP := Lib.hid (game_play hg (by omega) (fun c r s hs hu => hs.room hu s) s DV KV hok)
        clear hcw hcell hg hgf hel hA
        unfold stepV at HP
        go_wp2_with (go_at_call 13; refine HP.out.mono ?_; rintro e w' ⟨rfl, hg'⟩)
        refine ⟨⟨k + 1, by omega, by omega, by go_num, hg'⟩, by simp [RowKit.intOf]; omega⟩
      · clear hg hel hA
        by_cases hn2 : k < n
        · have hk2 : ¬ k < 60 := by omega
          have hk3 : ¬ (k : Int) < 60 := by omega
          go_wp2_with (go_at_call 12; refine (awake_calls _).mono ?_; rintro e w3 ⟨rfl, f3⟩)
          go_ret
          exact ⟨rfl, hgf.trans f3 fun _ h => h.elim⟩
        · go_wp2_with (go_at_call 12; refine (awake_calls _).mono ?_; rintro e w3 ⟨rfl, f3⟩)
          go_ret
          exact ⟨rfl, hgf.trans f3 fun _ h => h.elim⟩
theorem game_used {w0 w : World} {pp pc pr : Nat} {q : Int} {B : Nat} (h : GameAt w0 w pp pc pr q B) (hB : B ≤ 80000) :
    Calls Tryd.prog 18 #[.pointer (some ⟨pc, 0, none⟩)] w fun e w' => ∃ u : Nat, e = .returned (.tuple #[.int .i64 u, .int .i64 q]) ∧ (u : Int) ≤ q ∧ GameAt w0 w' pp pc pr q B := by
  obtain ⟨c, r, D, E, hP, hS, hq, hu, hD, hE, hpp, hf⟩ := h
  refine (hP.cab.used (fun f hf => (hS.all f hf).1) (Nat.le_trans hS.b1 (by omega))).mono fun e w' ⟨he, hfr⟩ => ⟨c.used, ?_, hu, c, r, D, E, hP.fr hfr id (fun _ _ => id) (fun _ _ => id), hS, hq, hu, hD, hE, hpp, hf.trans hfr fun _ h => h.elim⟩
  rw [he, hq]
set_option maxRecDepth 100000 in
set_option maxHeartbeats 4000000 in
theorem room_calls (v : Value) (w : World) (hst : Many w 7 104 (StepCells w) [v]) :
    Calls Tryd.prog 5 #[v] w fun e w' => e = .returned (.bool true) ∧ Fr (fun _ => False) w w' := by
  obtain ⟨A, n, cap, hv, hn, hc, _, hA, hel⟩ := hst
  obtain rfl : v = .slice A n cap := by simpa using hv
  simp only [maxLen] at hc
  have HN := Lib.hid (fun w => new_calls 300 w (by decide) (by decide))
  have HR := Lib.hid (fun w => rnew_calls 300 w (by decide) (by decide))
  clear hv
  go_enter Tryd.func5, Tryd.ntmps5
  go_wp2_with (first
    | (go_at_call 10; refine (HN.out _).mono ?_; rintro e w0 ⟨rfl, ⟨D1, hc0, n1⟩, f0⟩)
    | (go_at_call 12; refine (awake_calls _).mono ?_; rintro e w1 ⟨rfl, f01⟩)
    | (go_at_call 11; refine (HR.out _).mono ?_; rintro e w2 ⟨rfl, hr2, f2⟩))
  have f1 := f0.trans f01 fun _ h => h.elim
  have hc1 := hc0.fr f01 fun _ _ => id
  have HG := Lib.hid (game_start 300 w w1 w2 (t := 33) rfl (by decide) (by decide) hc1 n1 f1 hr2 rfl f2)
  go_loopw [8] (fun i wr => ∃ k : Nat, k ≤ n ∧ k ≤ 60 ∧ i = .int .i64 k ∧ GameAt w wr w2.heap.size (w.heap.size + 2) w1.heap.size 300 (2 * k)) (fun i _ => n - (RowKit.intOf i).toNat)
  case atStart => exact ⟨0, Nat.zero_le _, Nat.zero_le _, rfl, HG.out⟩
  case round =>
    obtain ⟨k, hk, hk60, rfl, hg⟩ := hrel
    have hgf : Fr (fun _ => False) w wr := by
      obtain ⟨_, _, _, _, _, _, _, _, _, _, _, h⟩ := hg
      exact h
    by_cases hlt : k < n ∧ k < 60
    · obtain ⟨hlt, h60⟩ := hlt
      obtain ⟨a, rfl⟩ : ∃ a, A = some a := by
        cases A with
        | none => have := (hA rfl).1; omega
        | some a => exact ⟨a, rfl⟩
      obtain ⟨xs, _, ⟨s, DV, KV, rfl, hok⟩, hcell⟩ := hel a rfl k hlt
      have hcw := fun j u hu => hgf.cell (hcell j u hu) id
      have c0 := hcw 0 _ rfl
      rw [Nat.add_zero] at c0
      have c1 := hcw 1 _ rfl
      rw [add_field _ _ 1 (by decide)] at c1
      have c2 := hcw 2 _ rfl
      rw [add_field _ _ 2 (by decide)] at c2
      have c3 := hcw 3 _ rfl
      rw [add_field _ _ 3 (by decide)] at c3
      have c4 := hcw 4 _ rfl
      rw [add_field _ _ 4 (by decide)] at c4
      have c5 := hcw 5 _ rfl
      rw [add_field _ _ 5 (by decide)] at c5
      have c6 := hcw 6 _ rfl
      rw [add_field _ _ 6 (by decide)] at c6
      have HP := Lib.hid (game_play hg (by omega) (fun c r s hs hu => hs.room hu s) s DV KV hok)
      clear hcw hcell hg hgf hel hA
      unfold stepV at HP
      have HU := Lib.hid (fun (w' : World) (h : GameAt w w' w2.heap.size (w.heap.size + 2) w1.heap.size 300 (2 * k + 2)) => game_used h (by omega))
      go_wp2_with (first
        | (go_at_call 13; refine HP.out.mono ?_; rintro e w' ⟨rfl, hg'⟩)
        | (go_at_call 18; refine (HU.out _ hg').mono ?_; rintro e w3 ⟨u, rfl, hu, hg3⟩; have hu2 : ¬ (300 : Int) < (u : Int) := by omega))
      refine ⟨⟨k + 1, by omega, by omega, by go_num, hg3⟩, by simp [RowKit.intOf]; omega⟩
    · clear hg hel hA
      by_cases hn2 : k < n
      · have hk2 : ¬ k < 60 := by omega
        have hk3 : ¬ (k : Int) < 60 := by omega
        go_wp2
        go_ret
        exact ⟨rfl, hgf⟩
      · go_wp2
        go_ret
        exact ⟨rfl, hgf⟩
end Chart

/- What every law's row needs beside its walk: the arguments read as they did; the answer is true. -/
namespace Chart
open Go Go.ChangeShapes Go.WideShapes Go.ChangeAt Go.RowKit

section
variable {H : Type} {enc : TypeId × Value → H} {P : Program}
theorem trodAll_stays (hl : laidOutB P = true) {W W' : World} (hb : Below W.heap.size W W') {sp : Nat → Bool} : ∀ {ts : List TypeId} {vs : List Value} {ds : List (DataW H)} {ps : List MemPlace}, (∀ t ∈ ts, P.readableRec t = true ∧ t < P.types.size) →
    DataW.TrodAll enc P W 0 (fun _ => true) true ts vs ds ps → (∀ p ∈ ps, p.block < W.heap.size) → (∀ p ∈ ps, sp p.block = true) → DataW.TrodAll enc P W' 0 sp true ts vs ds ps
  | [], [], [], _, _, h, _, _ => h
  | _ :: _, _ :: _, _ :: _, _, hT, ⟨p, q, h1, h2, e⟩, hlt, hs => ⟨p, q,
      WideElems.Trod_stays hl (hT _ (List.mem_cons.2 (Or.inl rfl))).1 (hT _ (List.mem_cons.2 (Or.inl rfl))).2 h1 (fun x hx => hb.same (hlt x (by rw [e]; exact List.mem_append_left _ hx))) (fun x hx => hs x (by rw [e]; exact List.mem_append_left _ hx)),
      trodAll_stays hl hb (fun t ht => hT t (List.mem_cons.2 (Or.inr ht))) h2 (fun x hx => hlt x (by rw [e]; exact List.mem_append_right _ hx)) (fun x hx => hs x (by rw [e]; exact List.mem_append_right _ hx)), e⟩

/-- A law's answer: true; the arguments read as they did; of what was there nothing has turned. -/
theorem post_true {f : Func} {s : ChangeSpec} {apart fresh : Bool} {b : TypeId} {W W' : World} {args : Array Value} {ds : List (DataW H)} {p q : List MemPlace}
    (hl : laidOutB P = true) (hb : P.underlying b = some .bool) (hres : f.resultTypes = #[b]) (hvars : s.vars = [])
    (hW : DataW.Whole enc P f.params.toList s.vars apart W args.toList ds [] (p ++ q)) (hA : DataW.TrodAll enc P W 0 (fun _ => true) true f.params.toList args.toList ds p) (hq : q = [])
    (hT : ∀ t ∈ f.params.toList, P.readableRec t = true ∧ t < P.types.size) (hB : Below W.heap.size W W')
    (hfn : s.fn H (ds ++ []) = { results := [.lit (.bool true)], args := ds }) : s.post enc P f apart fresh false false W args (.bool true) W' := by
  subst hq
  have hlt := hW.lt
  refine ⟨ds, [], p ++ [], [], p, [], hW, ?_, ?_, ?_, hB.frame _, fun h => by cases h⟩
  · rw [hfn, hres]
    exact trodAll_mk1 (shut_bool hb true)
  · rw [hfn]
    exact trodAll_stays hl hB hT hA (fun x hx => hlt x (by simpa using hx)) (fun x hx => by simpa using hlt x (by simpa using hx))
  · rw [hfn, hvars]
    rfl
end
end Chart
