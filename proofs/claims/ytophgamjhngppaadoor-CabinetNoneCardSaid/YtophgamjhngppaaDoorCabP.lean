/- Crash. -/
import Derived.Test.YtophgamjhngppaaDoorCabO
import Derived.Laws.BitsAllLaws
namespace Chart
open Go Go.RowKit Go.Proofs
attribute [local go_sem ↓] Go.wp_at_zero Go.wp_at_succ

structure CrashOk (c : Cab) : Prop where
  files : c.files.length ≤ 1000000
  waiting : c.waiting.length ≤ 1000000
  sure : c.sure.length ≤ 1000000
  chg : ∀ x ∈ c.waiting, x.kind ≤ 2 ∧ x.old.length ≤ maxLen ∧ x.name.length ≤ maxLen ∧ x.file ≤ 9223372036854775807
  rep : ∀ j, ∀ x ∈ (c.waiting.take j).foldl Folder.apply c.sure, x.2 < c.files.length ∧ x.1.length ≤ maxLen
  all : ∀ f ∈ c.files, f.all.length ≤ 1048576 ∧ f.sure ≤ f.all.length

theorem get_le {F : Folder} {N : Nat} (h : ∀ x ∈ F, x.2 < N) (k : Txt) : (F.get? k).getD 0 ≤ N := by
  cases hg : F.get? k with
  | none => exact Nat.zero_le _
  | some n => exact Nat.le_of_lt (h _ (get_mem hg))

theorem get_some {F : Folder} {k : Txt} {m : Nat} (h : (k, m) ∈ F) : ∃ n, F.get? k = some n := by
  unfold Folder.get?
  cases hf : F.find? fun p => p.1 == k with
  | some y => exact ⟨_, rfl⟩
  | none =>
    rw [List.find?_eq_none] at hf
    exact absurd (hf _ h) (by simp)
/-- What holds of a file behind a crash, too. -/
def FileOk (f : FileS) : Prop := f.all.length ≤ 1048576 ∧ f.sure ≤ f.all.length
theorem part_le (n m : Int) (h : 0 ≤ m) : 0 ≤ Cab.part n m ∧ Cab.part n m ≤ m := by unfold Cab.part; omega
theorem cut_ok {f : FileS} (h : FileOk f) (more : Int) (turn : UInt8) (hm : more ≤ (f.all.length : Int) - f.sure) : FileOk (Cab.cut f more turn) := by
  obtain ⟨h1, h2⟩ := h
  unfold Cab.cut
  simp only
  split <;> rename_i hc <;> refine ⟨?_, ?_⟩ <;> simp <;> omega
theorem crashFiles_ok (now : Folder) (keep : List Int) (turn : UInt8) : ∀ (a : List Txt) (i : Nat) (fs : List FileS), (∀ f ∈ fs, FileOk f) → ∀ f ∈ Cab.crashFiles now keep turn a i fs, FileOk f
  | [], _, _, h => h
  | x :: a, i, fs, h => by
    refine crashFiles_ok now keep turn a (i + 1) _ fun f hf => ?_
    rcases List.mem_or_eq_of_mem_set hf with h1 | h1
    · exact h f h1
    · subst h1
      have hd : FileOk (fs.getD ((now.get? x).getD 0) ⟨[], 0⟩) := by
        rw [List.getD_eq_getElem?_getD]
        cases hg : fs[(now.get? x).getD 0]? with
        | none => exact ⟨by simp, by simp⟩
        | some y => exact h _ (List.mem_of_getElem? hg)
      refine cut_ok hd _ _ ?_
      split
      · exact (part_le _ _ (by have := hd.2; omega)).2
      · have := hd.2; omega

theorem crashFiles_step (now : Folder) (keep : List Int) (turn : UInt8) (ks : List Txt) (j : Nat) (name : Txt) (n : Nat) (hk : ks[j]? = some name) (hn : now.get? name = some n) (fs : List FileS) (f : FileS) (hf : (Cab.crashFiles now keep turn (ks.take j) 0 fs)[n]? = some f) :
    Cab.crashFiles now keep turn (ks.take (j + 1)) 0 fs = (Cab.crashFiles now keep turn (ks.take j) 0 fs).set n (Cab.cut f (if j < keep.length then Cab.part (keep.getD j 0) ((f.all.length : Int) - (f.sure : Int)) else 0) turn) := by
  have hl : (ks.take j).length = j := by
    have := (List.getElem?_eq_some_iff.1 hk).1
    rw [List.length_take]
    omega
  rw [take_snoc' ks j name hk, crashFiles_append]
  simp only [Cab.crashFiles, hl, hn, Option.getD_some, Nat.zero_add]
  rw [List.getD_eq_getElem?_getD, hf]
  rfl

theorem Bytes.upto {w : World} {A : Option Addr} {cp : Nat} {l : Txt} (h : Bytes w (.slice A l.length cp) l) (k : Nat) (hk : k ≤ l.length) : Bytes w (.slice A k cp) (l.take k) := by
  have hl : (l.take k).length = k := by rw [List.length_take]; omega
  unfold Bytes
  rw [hl, ← bytesV_take]
  rcases id h.2 with ⟨hv, h0⟩ | ⟨g, cap, cur, hv, hg, hc, hm, _⟩
  · injection hv with h1 h2 h3
    subst h1 h3
    obtain rfl : l = [] := List.eq_nil_of_length_eq_zero h0
    obtain rfl : k = 0 := by simpa using hk
    exact Row.nil _ _ _
  · injection hv with h1 h2 h3
    subst h1 h3
    have := Row.front h k cp hk (by omega) (Nat.le_refl _)
    rwa [Nat.mul_one] at this
/-- A byte of it is turned. -/
theorem Bytes.turn {w : World} {g cp : Nat} {l : Txt} (h : Bytes w (.slice (some ⟨g, 0, none⟩) l.length cp) l) (k : Nat) (x : UInt8) : Bytes (w.setCell ⟨g, k, none⟩ (bv x)) (.slice (some ⟨g, 0, none⟩) (l.set k x).length cp) (l.set k x) := by
  have := Row.set h k (bv x)
  unfold Bytes
  rw [List.length_set]
  have e : (bytesV l).set k (bv x) = bytesV (l.set k x) := by unfold bytesV; rw [List.map_set]
  rwa [e] at this

theorem crash_round {V V1 w2 : World} {p g cp n S nb sb : Nat} {c : Cab} {NF : Folder} {fs : List FileS} {avs avs' : List Value} {v v' wv : Value} {f' : FileS} {D : Nat → Prop} {AN : Option Addr} {cN : Nat} {KV : Value} {keep : List Int} {nn : Nat} {ns : List Value}
    (hin : CabIn V p { c with now := NF, files := fs } (.slice (some ⟨g, 0, none⟩) c.files.length cp) avs' S sb wv) (hlen : fs.length = c.files.length) (hv : avs'[n]? = some v)
    (hb : Bytes V1 v' f'.all) (ho : v'.ownBlock = v.ownBlock) (hF : Fr (fun k => v.ownBlock = some k) V V1)
    (hsub : ∀ u ∈ avs', ∀ q, u.ownBlock = some q → ∃ v ∈ avs, v.ownBlock = some q)
    (hD : ∀ k, CabOwn p (.slice (some ⟨g, 0, none⟩) c.files.length cp) avs nb sb wv k → D k) (hfr : Fr D w2 V)
    (hrow : Row V 9 1 (.slice AN nn cN) nn ns) (hK : Src V 1 KV keep.length (keep.map (Value.int .i64))) (hKD : ∀ k, KV.ownBlock = some k → ¬ D k) :
    CabIn ((V1.setCell ⟨g, n * 2, none⟩ v').setCell ⟨g, n * 2 + 1, none⟩ (.int .i64 f'.sure)) p { c with now := NF, files := fs.set n f' } (.slice (some ⟨g, 0, none⟩) c.files.length cp) (avs'.set n v') S sb wv ∧
    (∀ u ∈ avs'.set n v', ∀ q, u.ownBlock = some q → ∃ v ∈ avs, v.ownBlock = some q) ∧
    Fr D w2 ((V1.setCell ⟨g, n * 2, none⟩ v').setCell ⟨g, n * 2 + 1, none⟩ (.int .i64 f'.sure)) ∧
    Row ((V1.setCell ⟨g, n * 2, none⟩ v').setCell ⟨g, n * 2 + 1, none⟩ (.int .i64 f'.sure)) 9 1 (.slice AN nn cN) nn ns ∧
    Src ((V1.setCell ⟨g, n * 2, none⟩ v').setCell ⟨g, n * 2 + 1, none⟩ (.int .i64 f'.sure)) 1 KV keep.length (keep.map (Value.int .i64)) := by
  have hvm := List.mem_of_getElem? hv
  have hnl : n < fs.length := by
    have := (List.getElem?_eq_some_iff.1 hv).1
    have := hin.len
    simp only at this
    omega
  have hr0 := hin.files
  simp only [hlen] at hr0
  have hvr : ∃ f : FileS, Bytes V v f.all := by
    obtain ⟨u, hu, hub⟩ := hin.bytes n _ (List.getElem?_eq_getElem hnl)
    rw [hv] at hu
    cases hu
    exact ⟨_, hub⟩
  obtain ⟨f0, hvb⟩ := hvr
  have hr1 := ((hr0.fr hF fun k hk hk' => hvb.ne_row hr0 (by decide) hk' hk).set (n * 2) v').set (n * 2 + 1) (.int .i64 f'.sure)
  have hl' := hin.len
  simp only at hl'
  have e := fileCells_set avs' fs n v' f' hnl hl'
  rw [e] at hr1
  have F2 : Fr (fun q => (Value.slice (some ⟨g, 0, none⟩) c.files.length cp).ownBlock = some q) V1 ((V1.setCell ⟨g, n * 2, none⟩ v').setCell ⟨g, n * 2 + 1, none⟩ (.int .i64 f'.sure)) := ((Fr.refl (fun q => (Value.slice (some ⟨g, 0, none⟩) c.files.length cp).ownBlock = some q) V1).setCell (p := ⟨g, n * 2, none⟩) (.inl rfl) _).setCell (p := ⟨g, n * 2 + 1, none⟩) (.inl rfl) _
  have ht := hin.turnFile (v' := v') (f' := f') hv hF (fun _ h => h) hb (fun k hk => .inl (by rw [← ho]; exact hk)) (by simp only [hlen]; exact hr1) F2
  have FD : Fr D V ((V1.setCell ⟨g, n * 2, none⟩ v').setCell ⟨g, n * 2 + 1, none⟩ (.int .i64 f'.sure)) := by
    refine (hF.mono fun k _ hk => ?_).trans F2 fun k hk => .inl (hD k (.inr (.inl hk)))
    obtain ⟨u, hu, huk⟩ := hsub v hvm k hk
    exact hD k (.inr (.inr (.inl ⟨u, hu, huk⟩)))
  have hnr : ∀ k, (Value.slice AN nn cN).ownBlock = some k → ¬ (v.ownBlock = some k) ∧ ¬ ((Value.slice (some ⟨g, 0, none⟩) c.files.length cp).ownBlock = some k) := fun k hk => ⟨fun h => hrow.ne_row hvb (by decide) hk h, fun h => hrow.ne_row hr0 (by decide) hk h⟩
  refine ⟨ht, ?_, hfr.trans FD fun _ h => .inl h, (hrow.fr hF fun k hk => (hnr k hk).1).fr F2 fun k hk => (hnr k hk).2, hK.fr FD fun q _ hq => hKD q hq⟩
  intro u hu q hq
  rcases List.mem_or_eq_of_mem_set hu with h | h
  · exact hsub u h q hq
  · subst h
    exact hsub v hvm q (by rw [← ho]; exact hq)
theorem xor_bv (a b : UInt8) : (Value.int .u8 (bits BinOp.xor IntKind.u8 (a.toNat : Int) (b.toNat : Int))) = bv (a ^^^ b) := by
  rw [u8_xor_nat _ _ (UInt8.toNat_lt a) (UInt8.toNat_lt b)]
  unfold bv
  rw [UInt8.toNat_xor]
theorem take_turned (l : Txt) (k : Nat) (x : UInt8) (h : k < l.length) : (l.set k x).take (k + 1) = l.take k ++ [x] := by
  apply List.ext_getElem?
  intro i
  rw [List.getElem?_take, List.getElem?_set]
  by_cases hi : i < k
  · rw [if_pos (by omega), if_neg (by omega), List.getElem?_append_left (by rw [List.length_take]; omega), List.getElem?_take, if_pos hi]
  · by_cases he : i = k
    · subst he
      rw [if_pos (by omega), if_pos rfl, if_pos h, List.getElem?_append_right (by rw [List.length_take]; omega), List.length_take, Nat.min_eq_left (by omega), Nat.sub_self]
      rfl
    · rw [if_neg (by omega), List.getElem?_append_right (by rw [List.length_take]; omega), List.length_take, Nat.min_eq_left (by omega), List.getElem?_eq_none (by simp; omega)]
end Chart
