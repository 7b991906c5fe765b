/- slices.Sorted(maps.Keys(m)), m a map of the call's own whose keys are texts: contracts, laid out of the kit's library. -/
import Derived.Shelf.SlIter.Nil
import Derived.Shelf.SortM.Plain
import Derived.Shelf.SortM.SortNone
import Derived.Ground.GgzProg
import Derived.Ground.SlgmProg
import Derived.Test.YtijkfjahgijphaaKSpec
set_option linter.unusedVariables false
set_option linter.unusedSimpArgs false
set_option maxRecDepth 100000
set_option maxHeartbeats 4000000
namespace Go.Proofs.Ytijkfjahgijphaa
open Go.Shelf Go.RowKit Go.Maps Go.Sort
def keysL_ren : Go.Shelf.Ren := ⟨fun | 7 => 113 | 10 => 158 | n => n, fun | 23 => 144 | 26 => 9 | 3 => 28 | 28 => 148 | 0 => 0 | 27 => 147 | 33 => 136 | 4 => 4 | n => n, fun | n => n⟩
theorem keysL : SlLaysZ.n7 Try.prog keysL_ren := {
  mixed := by kernel_rfl
  f7 := ⟨Try.f113.name, by decide, Try.func113.trans (congrArg some (by kernel_rfl))⟩
  f10 := ⟨Try.f158.name, by decide, Try.func158.trans (congrArg some (by kernel_rfl))⟩
  t0 := Try.underlying0
  a0 := Try.isAgg0
  z0 := Try.sizeOf0
  v0 := Try.zeroValue0
  t4 := Try.underlying4
  a4 := Try.isAgg4
  z4 := Try.sizeOf4
  v4 := Try.zeroValue4
  t23 := Try.underlying144
  a23 := Try.isAgg144
  z23 := Try.sizeOf144
  v23 := Try.zeroValue144
  t26 := Try.underlying9
  a26 := Try.isAgg9
  z26 := Try.sizeOf9
  v26 := Try.zeroValue9
  t27 := Try.underlying147
  a27 := Try.isAgg147
  z27 := Try.sizeOf147
  v27 := Try.zeroValue147
  t28 := Try.underlying148
  a28 := Try.isAgg148
  z28 := Try.sizeOf148
  v28 := Try.zeroValue148
  t33 := Try.underlying136
  a33 := Try.isAgg136
  z33 := Try.sizeOf136
  v33 := Try.zeroValue136 }
def sortedL_ren : Go.Shelf.Ren := ⟨fun | 6 => 112 | 8 => 156 | 9 => 157 | 11 => 169 | 13 => 171 | 12 => 170 | 23 => 183 | 24 => 184 | 14 => 174 | 15 => 175 | 16 => 176 | 17 => 177 | 18 => 178 | 19 => 179 | 20 => 180 | 21 => 181 | 22 => 182 | 25 => 187 | 26 => 188 | 27 => 189 | 28 => 190 | 29 => 191 | 30 => 166 | 31 => 196 | n => n, fun | 26 => 9 | 28 => 148 | 24 => 139 | 0 => 0 | 3 => 3 | 37 => 120 | 48 => 116 | 50 => 118 | 4 => 4 | 40 => 193 | 39 => 192 | 45 => 129 | 5 => 5 | 9 => 9 | 51 => 200 | 55 => 128 | 57 => 208 | 58 => 70 | 33 => 136 | n => n, fun | n => n⟩
theorem sortedL : SlLaysZ.n6 Try.prog sortedL_ren := {
  mixed := by kernel_rfl
  f6 := ⟨Try.f112.name, by decide, Try.func112.trans (congrArg some (by kernel_rfl))⟩
  f8 := ⟨Try.f156.name, by decide, Try.func156.trans (congrArg some (by kernel_rfl))⟩
  f11 := ⟨Try.f169.name, by decide, Try.func169.trans (congrArg some (by kernel_rfl))⟩
  t0 := Try.underlying0
  a0 := Try.isAgg0
  z0 := Try.sizeOf0
  v0 := Try.zeroValue0
  t24 := Try.underlying139
  a24 := Try.isAgg139
  z24 := Try.sizeOf139
  v24 := Try.zeroValue139
  t26 := Try.underlying9
  a26 := Try.isAgg9
  z26 := Try.sizeOf9
  v26 := Try.zeroValue9
  t28 := Try.underlying148
  a28 := Try.isAgg148
  z28 := Try.sizeOf148
  v28 := Try.zeroValue148
  i26 := by kernel_rfl }
def sortL_ren : Go.Shelf.Ren := ⟨fun | 6 => 157 | 8 => 171 | 9 => 170 | 19 => 183 | 20 => 184 | 21 => 174 | 22 => 175 | 23 => 176 | 24 => 177 | 25 => 178 | 26 => 179 | 27 => 180 | 28 => 181 | 29 => 182 | 36 => 187 | 31 => 188 | 32 => 189 | 37 => 190 | 38 => 191 | 39 => 166 | 41 => 196 | n => n, fun | 27 => 139 | 29 => 9 | 3 => 3 | 32 => 120 | 26 => 139 | 0 => 0 | 44 => 116 | 46 => 118 | 4 => 4 | 36 => 193 | 35 => 192 | 41 => 129 | 5 => 5 | 9 => 9 | 53 => 200 | 57 => 128 | 63 => 208 | 64 => 70 | n => n, fun | n => n⟩
theorem sortL : SlLaysM.n6 Try.prog sortL_ren := {
  mixed := by kernel_rfl
  f6 := ⟨Try.f157.name, by decide, Try.func157.trans (congrArg some (by kernel_rfl))⟩
  f8 := Try.func171.trans (congrArg some (by kernel_rfl))
  f9 := ⟨Try.f170.name, by decide, Try.func170.trans (congrArg some (by kernel_rfl))⟩
  f19 := Try.func183.trans (congrArg some (by kernel_rfl))
  f20 := Try.func184.trans (congrArg some (by kernel_rfl))
  f21 := ⟨Try.f174.name, by decide, Try.func174.trans (congrArg some (by kernel_rfl))⟩
  f22 := ⟨Try.f175.name, by decide, Try.func175.trans (congrArg some (by kernel_rfl))⟩
  f23 := ⟨Try.f176.name, by decide, Try.func176.trans (congrArg some (by kernel_rfl))⟩
  f24 := ⟨Try.f177.name, by decide, Try.func177.trans (congrArg some (by kernel_rfl))⟩
  f25 := ⟨Try.f178.name, by decide, Try.func178.trans (congrArg some (by kernel_rfl))⟩
  f26 := ⟨Try.f179.name, by decide, Try.func179.trans (congrArg some (by kernel_rfl))⟩
  f27 := ⟨Try.f180.name, by decide, Try.func180.trans (congrArg some (by kernel_rfl))⟩
  f28 := ⟨Try.f181.name, by decide, Try.func181.trans (congrArg some (by kernel_rfl))⟩
  f29 := ⟨Try.f182.name, by decide, Try.func182.trans (congrArg some (by kernel_rfl))⟩
  f31 := Try.func188.trans (congrArg some (by kernel_rfl))
  f32 := Try.func189.trans (congrArg some (by kernel_rfl))
  f36 := ⟨Try.f187.name, by decide, Try.func187.trans (congrArg some (by kernel_rfl))⟩
  f37 := ⟨Try.f190.name, by decide, Try.func190.trans (congrArg some (by kernel_rfl))⟩
  f38 := ⟨Try.f191.name, by decide, Try.func191.trans (congrArg some (by kernel_rfl))⟩
  f39 := ⟨Try.f166.name, by decide, Try.func166.trans (congrArg some (by kernel_rfl))⟩
  f41 := ⟨Try.f196.name, by decide, Try.func196.trans (congrArg some (by kernel_rfl))⟩
  t0 := Try.underlying0
  a0 := Try.isAgg0
  z0 := Try.sizeOf0
  v0 := Try.zeroValue0
  t3 := Try.underlying3
  a3 := Try.isAgg3
  z3 := Try.sizeOf3
  v3 := Try.zeroValue3
  t4 := Try.underlying4
  a4 := Try.isAgg4
  z4 := Try.sizeOf4
  v4 := Try.zeroValue4
  t5 := Try.underlying5
  a5 := Try.isAgg5
  z5 := Try.sizeOf5
  v5 := Try.zeroValue5
  t9 := Try.underlying9
  a9 := Try.isAgg9
  z9 := Try.sizeOf9
  v9 := Try.zeroValue9
  t26 := Try.underlying139
  a26 := Try.isAgg139
  z26 := Try.sizeOf139
  v26 := Try.zeroValue139
  t27 := Try.underlying139
  a27 := Try.isAgg139
  z27 := Try.sizeOf139
  v27 := Try.zeroValue139
  t29 := Try.underlying9
  a29 := Try.isAgg9
  z29 := Try.sizeOf9
  v29 := Try.zeroValue9
  t32 := Try.underlying120
  a32 := Try.isAgg120
  z32 := Try.sizeOf120
  v32 := Try.zeroValue120
  t35 := Try.underlying192
  a35 := Try.isAgg192
  z35 := Try.sizeOf192
  v35 := Try.zeroValue192
  t36 := Try.underlying193
  a36 := Try.isAgg193
  z36 := Try.sizeOf193
  v36 := Try.zeroValue193
  t41 := Try.underlying129
  a41 := Try.isAgg129
  z41 := Try.sizeOf129
  v41 := Try.zeroValue129
  t44 := Try.underlying116
  a44 := Try.isAgg116
  z44 := Try.sizeOf116
  v44 := Try.zeroValue116
  t46 := Try.underlying118
  a46 := Try.isAgg118
  z46 := Try.sizeOf118
  v46 := Try.zeroValue118
  t53 := Try.underlying200
  a53 := Try.isAgg200
  z53 := Try.sizeOf200
  v53 := Try.zeroValue200
  t57 := Try.underlying128
  a57 := Try.isAgg128
  z57 := Try.sizeOf128
  v57 := Try.zeroValue128
  t63 := Try.underlying208
  a63 := Try.isAgg208
  z63 := Try.sizeOf208
  v63 := Try.zeroValue208
  t64 := Try.underlying70
  a64 := Try.isAgg70
  z64 := Try.sizeOf70
  v64 := Try.zeroValue70 }
theorem sortsL (m : Nat) : AnyZ.SortsIn Try.prog sortedL_ren Fence.wide m :=
  ⟨fun blk off cap ss W hH hblk hsz => callsIn_wide.2 (AnyM.slices_Sort_string sortL blk off cap ss W hH hblk hsz), fun p cap W => callsIn_wide.2 (AnyM.slices_Sort_string_none sortL p cap W)⟩
theorem sortedL_calls {H : Type} (Bm b nn : Nat) (D0 : DataW H) (R : Value → Option (DataW H × List MemPlace)) (w : World) (hBm : Bm < w.heap.size) (hm : w.cell? ⟨Bm, 0, none⟩ = some (.map (some b))) (hown : w.ownsMap Try.prog 9 R b nn D0) (hmax : Maps.size D0 ≤ maxLen) (hbytes : Maps.size D0 * 16 ≤ 140737488355328) :
    Calls Try.prog 112 #[.func (.func 158) #[] #[.pointer (some ⟨Bm, 0, none⟩)]] w fun e w' => ∃ (v : Value) (ss : List (List UInt8)), e = .returned v ∧ ss.Perm (strKeys D0) ∧
      w'.ownsRow w.heap.size 9 1 v ss.length ((ss.mergeSort (fun x y => decide (x ≤ y))).map encStr) ∧ (v = .slice none 0 0 ↔ ss = []) ∧ Below w.heap.size w w' := by
  have hseq : SeqGives Fence.wide 2 Try.prog 158 #[.pointer (some ⟨Bm, 0, none⟩)] encStr (fun ss => ss.Perm (strKeys D0)) (Maps.size D0) w :=
    AnyZ.keys_gives (ρ := keysL_ren) { keysL with } Fence.wide _ trivial rfl (by omega) Bm b nn D0 _ hBm hm hown
  exact (callsIn_wide (n := 5)).1 (AnyZ.sorted_in sortedL Fence.wide 5 trivial trivial trivial trivial rfl (by omega) (sortsL _) (enters_of Try.func157 (by kernel_rfl) rfl) 158 #[.pointer (some ⟨Bm, 0, none⟩)] trivial (enters_of Try.func158 (by kernel_rfl) rfl) _ _ hmax hbytes _ hseq)
end Go.Proofs.Ytijkfjahgijphaa
namespace Go.Proofs.Ytijkfjahgijphaa.E
open Go Go.Shelf Go.RowKit Go.Maps Go.Sort Go.Lib
def sortS (l : List ByteArray) : List ByteArray := ((l.map fun s => s.data.toList).mergeSort leB).map fun b => ⟨b.toArray⟩
theorem sorted_callOk {ν : Type} {g : ν → List PC} {va : Bool} {l : List (ByteArray × ν)} (hn : l.length ≤ 1000000) (hk : ∀ e ∈ l, e.1.size ≤ maxLen) :
    CallOk Try.prog 112 [.one (.fn 158 [0])] [.box [.mp 1], .mp .str va (l.map fun e => ([.v (.string e.1)], g e.2))] (.one (.own 2))
      [.box [.mp 1], .mp .str va (l.map fun e => ([.v (.string e.1)], g e.2)), .rows 1 ((sortS (l.map (·.1))).map fun s => [.v (.string s)])] := by
  refine ⟨⟨_, _, Try.func112, rfl, rfl⟩, fun w S inj vs hv hI hfree => ?_⟩
  have hfr : ∀ b, 2 ≤ b → inj b = .free := fun b h => hfree b h
  cases hv with
  | cons h0 hv =>
  cases hv
  obtain ⟨Bm, cs, ee, hB0, hBS, hBh, hBc⟩ := hI.live 0
  obtain ⟨b, es, clock, hM0, hMS, hMh, hMst, hMe⟩ := hI.live 1
  obtain ⟨mv, rfl⟩ : ∃ mv, cs = [mv] := by
    cases hBc with
    | cons _ hr => cases hr; exact ⟨_, rfl⟩
  have hm0 : VR w S inj (.mp 1) mv := by
    cases hBc with
    | cons h _ => exact h
  have hmv : mv = .map (some b) := by
    cases hm0 with
    | mp h =>
      rcases h with h | ⟨g', h, rfl⟩
      · rw [hM0] at h; cases h
      · rw [hM0] at h; injection h with h; rw [h]
  subst hmv
  have hfn := h0.cellv (by simp)
  cases hfn with
  | fn hf =>
  cases hf with
  | cons hp hr =>
  cases hr
  obtain ⟨a, rfl, hp⟩ := hp
  obtain rfl : a = some ⟨Bm, 0, none⟩ := by
    rcases hp with h | ⟨g', h, rfl⟩
    · rw [hB0] at h; cases h
    · rw [hB0] at h; injection h with h; rw [h]
  have hBw : Bm < w.heap.size := (Array.getElem?_eq_some_iff.1 hBh).1
  have hcell : w.cell? ⟨Bm, 0, none⟩ = some (.map (some b)) := by simp [World.cell?, hBh]
  let R : Value → Option (DataW Unit × List MemPlace) := fun _ => some (.nil, [])
  have hkeys : F2 (fun (e : ByteArray × ν) (m : MapEntry) => m.key = .string e.1) l es.toList := by
    have : ∀ {l : List (ByteArray × ν)} {ms : List MapEntry}, F2 (fun (x : List PC × List PC) (m : MapEntry) => KeyV .str x.1 m.key ∧ ValV w S va x.2 m.val) (l.map fun e => ([.v (.string e.1)], g e.2)) ms → F2 (fun (e : ByteArray × ν) (m : MapEntry) => m.key = .string e.1) l ms := by
      intro l
      induction l with
      | nil => intro ms h; cases h; exact .nil
      | cons e l ih =>
        intro ms h
        cases h with
        | cons h1 h2 =>
          refine .cons ?_ (ih h2)
          obtain ⟨s, hs1, hs2⟩ := h1.1
          injection hs1 with hs1 _
          injection hs1 with hs1
          injection hs1 with hs1
          rw [hs2, hs1]
    exact this hMe
  have hlen : l.length = es.size := by have := hkeys.len; simpa using this
  have hrd : ∀ {l : List (ByteArray × ν)} {ms : List MapEntry}, F2 (fun (e : ByteArray × ν) (m : MapEntry) => m.key = .string e.1) l ms → (∀ e ∈ l, e.1.size ≤ maxLen) → (∀ x ∈ ms, ∃ y, Go.WideElems.rd Try.prog 9 R x = some y) ∧ ms.map (Go.WideElems.rg Try.prog 9 R) = l.map fun e => (Lit.string e.1.data.toList, DataW.nil) := by
    intro l ms h
    induction h with
    | nil => intro _; exact ⟨by simp, rfl⟩
    | @cons e m l ms h1 _ ih =>
      intro hk
      obtain ⟨i1, i2⟩ := ih fun e he => hk e (by simp [he])
      have hy : Go.WideElems.rd Try.prog 9 R m = some (.string e.1.data.toList, .nil) := by
        unfold Go.WideElems.rd
        rw [h1, Go.WideMaps.keyOf_string_mk Try.underlying9 (hk e (by simp))]; rfl
      refine ⟨fun x hx => ?_, ?_⟩
      · rcases List.mem_cons.1 hx with rfl | hx
        · exact ⟨_, hy⟩
        · exact i1 x hx
      · rw [List.map_cons, List.map_cons, i2, Go.WideElems.rg_of hy]
  obtain ⟨r1, r2⟩ := hrd hkeys hk
  have hsz : es.size ≤ maxLen := by rw [← hlen]; unfold maxLen; omega
  have hown : w.ownsMap Try.prog 9 R b es.size (.map ((es.toList.map (Go.WideElems.rg Try.prog 9 R)).foldr DataW.insert [])) := ⟨es, clock, hMh, ⟨hsz, hMst, r1⟩, Nat.le_refl _, rfl⟩
  have hD : Maps.size (.map ((es.toList.map (Go.WideElems.rg Try.prog 9 R)).foldr DataW.insert [])) = l.length := by
    rw [Maps.size_eq, DataW.length_sorted, List.length_map, Array.length_toList, hlen]
  refine (sortedL_calls Bm b es.size _ R w hBw hcell hown (by rw [hD, hlen]; exact hsz) (by rw [hD]; omega)).mono ?_
  rintro e w' ⟨v', ss, rfl, hperm, hrow, hnil, hbel⟩
  have hks : ss.mergeSort leB = (l.map fun e => e.1.data.toList).mergeSort leB := by
    refine mergeSort_of_perm (hperm.trans ?_)
    rw [r2]
    show (List.map _ (List.foldr DataW.insert [] _)).Perm _
    refine ((Go.WideShapes.sorted_perm _).map _).trans ?_
    rw [List.map_map]
    exact List.Perm.refl _
  have hG := below_grow (S := S) hI.lt hbel
  have hsl : ss.length = (sortS (l.map (·.1))).length := by
    unfold sortS
    rw [List.length_map, List.map_map]
    have := congrArg List.length hks
    simpa using this
  have hrows : F2 (PR w' S) ((sortS (l.map (·.1))).map fun s => [PC.v (.string s)]).flatten ((ss.mergeSort (fun x y => decide (x ≤ y))).map encStr) := by
    have e1 : ss.mergeSort (fun x y => decide (x ≤ y)) = (l.map fun e => e.1.data.toList).mergeSort leB := hks
    rw [e1]
    have e2 : (l.map (·.1)).map (fun s => s.data.toList) = l.map fun e => e.1.data.toList := by rw [List.map_map]; rfl
    unfold sortS
    rw [e2, List.map_map]
    generalize (l.map fun e => e.1.data.toList).mergeSort leB = q
    induction q with
    | nil => exact .nil
    | cons x q ih => exact .cons (.v rfl) ih
  obtain ⟨a', c', g', rfl, hR, hg⟩ := own_row (S := S) (l := (sortS (l.map (·.1))).map fun s => [PC.v (.string s)]) hI.lt hrow (by rw [List.length_map, hsl]) (by simp) (by decide) hrows
  have hle := injAt_le (l := .row (.slice a' ss.length c') g') (hfr 2 (Nat.le_refl _))
  refine ⟨_, S, injAt inj 2 (.row (.slice a' ss.length c') g'), rfl, hG, hle, fun b' hb' h => ?_, .ofc (.own (.inr ⟨g', by rw [injAt_same]; rfl⟩)), ?_⟩
  · rw [injAt_ne (by rcases h with h | h <;> simp at h <;> omega)]; exact hb'
  · have e : E.look [.box [.mp 1], .mp .str va (l.map fun e => ([.v (.string e.1)], g e.2)), .rows 1 ((sortS (l.map (·.1))).map fun s => [.v (.string s)])] = setB (E.look [.box [.mp 1], .mp .str va (l.map fun e => ([.v (.string e.1)], g e.2))]) 2 (.rows 1 ((sortS (l.map (·.1))).map fun s => [.v (.string s)])) := by
      funext b'
      unfold setB
      split
      · next h => subst h; rfl
      · next h => rw [look_eq, look_eq]; match b', h with | 0, _ => rfl | 1, _ => rfl | 2, h => exact absurd rfl h | b' + 3, _ => rfl
    rw [e]
    refine hI.set hG hle (fun _ h => injAt_ne h) injAt_same (fun b' x _ hd hx => ?_) ⟨_, _, rfl, hR⟩ (fun _ b' x _ hd h1 h2 => ?_) (fun x h => Nat.lt_of_lt_of_le (hI.lt x h) hG.size)
    · obtain ⟨h1, h2⟩ := (hI.live b').blk hd hx
      exact ⟨hbel.block x h2, h1⟩
    · have := ((hI.live b').blk hd h2).2
      have := hg x h1
      omega
end Go.Proofs.Ytijkfjahgijphaa.E
namespace Go.Proofs.Ytijkfjahgijphaa
open Go E
def sorted_s {ν : Type} (l : List (ByteArray × ν)) : Option (List ByteArray) := chk (decide (l.length ≤ 1000000) && l.all fun e => decide (e.1.size ≤ maxLen)) (some (sortS (l.map (·.1))))
theorem sorted_c {ν : Type} {g : ν → List PC} {va : Bool} {X : Task → Prop} (hX : Closed X) {l : List (ByteArray × ν)} {r : List ByteArray} {Q : A → List Blk → Prop} (h : sorted_s l = some r) (hQ : Q (.one (.own 2)) [.box [.mp 1], .mp .str va (l.map fun e => (srw e.1, g e.2)), .rows 1 (r.map srw)]) :
    X (.call 112 [.one (.fn 158 [0])] [.box [.mp 1], .mp .str va (l.map fun e => (srw e.1, g e.2))] Q) := by
  unfold sorted_s at h
  obtain ⟨d, h⟩ := chk_some h
  injection h with h; subst h
  rw [Bool.and_eq_true, List.all_eq_true] at d
  exact prim_call hX (sorted_callOk (of_decide_eq_true d.1) fun e he => of_decide_eq_true (d.2 e he)) hQ
end Go.Proofs.Ytijkfjahgijphaa
