import Derived.Test.YteffcgojmmbogaaGreatDoorHemY
namespace Go.Hem
abbrev Sl (α : Type):=Option (List α)
def Sl.l {α : Type} (s : Sl α) : List α:=s.getD []
def Sl.of {α : Type} (l : List α) : Sl α:=if l.isEmpty then none else some l
def slm {α : Type} (f : α→AV) : Sl α→AV
  | none => .sc .nils
  | some l => .imm (l.map f)
variable {P : Program} {pol : Pol} {H : AHeap} {t : List AV} {α : Type} {f : α→AV} {s : Sl α} {l : List α}
theorem l_none : Sl.l (none : Sl α) = []:=rfl
theorem l_some : Sl.l (some l : Sl α) = l:=rfl
theorem o_slm : AV.one (slm f s) = true:=by cases s <;> rfl
theorem c_slm : AV.cells (slm f s) = [slm f s]:=by cases s <;> rfl
theorem e_lenm : lenOf (slm f s) = some (.sc (.int .i64 (Sl.l s).length)):=by cases s <;> simp [slm,lenOf,Sl.l]
theorem e_elemm {n i : Nat} : elemAt n (slm f s) i = ((Sl.l s)[i]?).bind fun v => if (f v).cells.length = n∧n ≠ 0 then some (.iptr (f v).cells) else none:=by
  cases s with
  | none => simp [slm,elemAt,Sl.l]
  | some l => simp only [slm,elemAt,Sl.l,Option.getD_some,List.getElem?_map]; cases l[i]? <;> rfl
theorem e_alenm : alen (slm f s) = some (Sl.l s).length:=by cases s <;> simp [slm,alen,Sl.l]
theorem e_nilm {neg : Bool} : bnilOf neg .slice (slm f s) (.sc .nils) = some (.sc (.bool (s.isNone != neg))):=by
  cases s <;> rfl
def wantOf : Option AV→Bool→Option Bool
  | some (.sc (.bool b)),w => some (b == w)
  | some (.sc _),_ => some false
  | some .poison,_ => none
  | some _,_ => some false
  | none,_ => some false
theorem cw_some {d : Tmp} {w : Bool} : cwant t (some (some d,w)) = wantOf (t[d]?) w:=by
  unfold cwant wantOf
  simp only [Option.bind_some]
  cases t[d]? with
  | none => rfl
  | some v => cases v <;> first | rfl | (rename_i q; cases q <;> rfl)
theorem cw_bool {b w : Bool} : wantOf (some (.sc (.bool b))) w = some (b == w):=rfl
theorem cw_undef {w : Bool} : wantOf (some (.sc .undef)) w = some false:=rfl
theorem bq_tt : (true == true) = true:=rfl
theorem bq_ff : (false == false) = true:=rfl
theorem bq_tf : (true == false) = false:=rfl
theorem bq_ft : (false == true) = false:=rfl
theorem r_ret {rs : List CR} {Q : AV→AHeap→Prop} : resC rs Q .ret t H = ∃ v,cresults t H rs = some v∧Q v H:=rfl
theorem r_normal {rs : List CR} {Q : AV→AHeap→Prop} : resC rs Q .normal t H = ∃ v,cresults t H rs = some v∧Q v H:=rfl
theorem cr_tmp {i : Nat} : cresult t H (.tmp i) = some (t.getD i (.sc .undef)):=rfl
theorem cr_cell {a : Nat} : cresult t H (.cell1 a) = read1 H (t.getD a (.sc .undef)):=rfl
theorem cr_cells {a n : Nat} : cresult t H (.cellN n a) = readN H n (t.getD a (.sc .undef)):=rfl
theorem cr_one {r : CR} : cresults t H [r] = cresult t H r:=by
  unfold cresults; simp only [List.mapM_cons,List.mapM_nil,Option.bind_eq_bind,Option.pure_def,Option.bind_some]
  cases cresult t H r <;> rfl
theorem cr_two {r q : CR} : cresults t H [r,q] = (cresult t H r).bind fun a => (cresult t H q).map fun b => .tup [a,b]:=by
  unfold cresults; simp only [List.mapM_cons,List.mapM_nil,Option.bind_eq_bind,Option.pure_def,Option.bind_some]
  cases cresult t H r with
  | none => rfl
  | some a => cases cresult t H q <;> rfl
theorem cr_three {r q p : CR} : cresults t H [r,q,p] = (cresult t H r).bind fun a => (cresult t H q).bind fun b => (cresult t H p).map fun c => .tup [a,b,c]:=by
  unfold cresults; simp only [List.mapM_cons,List.mapM_nil,Option.bind_eq_bind,Option.pure_def,Option.bind_some]
  cases cresult t H r with
  | none => rfl
  | some a =>
    cases cresult t H q with
    | none => rfl
    | some b => cases cresult t H p <;> rfl
theorem fz_agg {d : Nat} {l : List AV} : freezeV (d + 1) (.agg l) H = (freezeL (freezeV d) l H).map fun r => (.agg r.1,r.2):=rfl
theorem fz_tup {d : Nat} {l : List AV} : freezeV (d + 1) (.tup l) H = (freezeL (freezeV d) l H).map fun r => (.tup r.1,r.2):=rfl
theorem fz_cons {g : AV→AHeap→Option (AV × AHeap)} {v : AV} {l : List AV} : freezeL g (v :: l) H = (g v H).bind fun r => (freezeL g l r.2).map fun q => (r.1 :: q.1,q.2):=rfl
theorem cl_sc {s : Sc} : AV.closedB (.sc s) = true:=rfl
theorem cl_tup {l : List AV} : AV.closedB (.tup l) = AV.closedBs l:=rfl
theorem cl_agg {l : List AV} : AV.closedB (.agg l) = AV.closedBs l:=rfl
theorem cl_nil : AV.closedBs [] = true:=rfl
theorem cl_cons {v : AV} {l : List AV} : AV.closedBs (v :: l) = (AV.closedB v && AV.closedBs l):=rfl
def Frz (v : AV) (H : AHeap) (u : AV) : Prop:=∃ H1,freeze v H = some (u,H1)∧AV.closedB u = true
def AV.plain1 : AV→Bool
  | .sc _ => true
  | .imm l => AV.closedBs l
  | _ => false
def AV.plain2 : AV→Bool
  | .agg cs => cs.all AV.plain1
  | v => v.plain1
def AV.plain : AV→Bool
  | .tup cs => cs.all AV.plain2
  | v => v.plain2
theorem plain1_fz {v : AV} {d : Nat} (h : v.plain1 = true) : freezeV (d + 1) v H = some (v,H)∧AV.closedB v = true:=by
  cases v <;> simp [AV.plain1] at h
  · exact ⟨rfl,rfl⟩
  · exact ⟨rfl,h⟩
theorem fzL_id {g : AV→AHeap→Option (AV × AHeap)} : ∀ {l : List AV},(∀ v ∈ l,g v H = some (v,H)∧AV.closedB v = true)→freezeL g l H = some (l,H)∧AV.closedBs l = true
  | [],_ => ⟨rfl,rfl⟩
  | v :: l,h => by
    have h1:=h v (by simp)
    have h2:=fzL_id (l:=l) fun v hv => h v (by simp [hv])
    exact ⟨by rw [fz_cons,h1.1]; simp only [Option.bind_some,h2.1]; rfl,by rw [cl_cons,h1.2,h2.2]; rfl⟩
theorem plain2_fz {v : AV} {d : Nat} (h : v.plain2 = true) : freezeV (d + 2) v H = some (v,H)∧AV.closedB v = true:=by
  cases v
  case agg cs =>
    simp only [AV.plain2,List.all_eq_true] at h
    have:=fzL_id (g:=freezeV (d + 1)) (H:=H) fun v hv => plain1_fz (h v hv)
    exact ⟨by rw [fz_agg,this.1]; rfl,by rw [cl_agg]; exact this.2⟩
  all_goals exact plain1_fz h
theorem plain_fz {v : AV} {d : Nat} (h : v.plain = true) : freezeV (d + 3) v H = some (v,H)∧AV.closedB v = true:=by
  cases v
  case tup cs =>
    simp only [AV.plain,List.all_eq_true] at h
    have:=fzL_id (g:=freezeV (d + 2)) (H:=H) fun v hv => plain2_fz (h v hv)
    exact ⟨by rw [fz_tup,this.1]; rfl,by rw [cl_tup]; exact this.2⟩
  all_goals exact plain2_fz h
theorem frz_plain {u v : AV} (e : v = u) (h : u.plain = true) : Frz v H u:=by
  subst e
  have:=plain_fz (H:=H) (d:=17) h
  exact ⟨H,this.1,this.2⟩
theorem frz_sc {s : Sc} : Frz (.sc s) H (.sc s):=frz_plain rfl rfl
theorem Pv_of' {g : FuncId} {cf : CF} (hf : compF P g = some cf) {args : List AV} {u : AV} (hc : AV.closedBs args = true)
    (h : wpF P pol cf args {} fun v H' => Frz v H' u) : Pv P pol g args u:=Pv_of hf hc h
end Go.Hem
