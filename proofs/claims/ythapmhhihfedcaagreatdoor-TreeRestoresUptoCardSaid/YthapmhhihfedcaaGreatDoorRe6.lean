/-
 Clones: the whole tree (printed by genclone.py).
-/
import Derived.Test.YthapmhhihfedcaaGreatDoorTo5
import Derived.Test.YthapmhhihfedcaaGreatDoorCl2
import Derived.Test.YthapmhhihfedcaaGreatDoorTn3
import Derived.Test.YthapmhhihfedcaaGreatDoorSh28
import Derived.Test.YthapmhhihfedcaaGreatDoorRows
import Derived.Lib.LastIndexByte
namespace Go.Proofs.YthapmhhihfedcaaGreatDoor
open Go Go.Sh
set_option maxRecDepth 100000
set_option linter.unusedVariables false
set_option linter.unusedSimpArgs false
variable {w0 w:World} {F:Nat→Prop} {l:List As}
variable {D:List Row} {X:PT} {T:Tr} {β:Int→Nat}
theorem below_whole (hi : Inv T) {r : Nd} (hr : T.get 0 = some r) : (belowN T 2000 r).Perm T.ns:=by
  have h1 : T.ns.Nodup:=List.Pairwise.of_map (S:=(· ≠ ·)) Nd.path (fun a b h e=>h (by rw [e])) hi.nodup
  exact (List.perm_ext_iff_of_nodup (below_nodup hi _ (hi.get.1 hr).1) h1).2 fun a=>⟨fun h=>below_mem hi _ (hi.get.1 hr).1 h,fun h=>below_all hi hr h⟩

def CloneT (a0 t3 g : Value) (w : World) (R : Value→World→Prop) : Prop :=
 Ef PP (Instr.range Ty.t0 g) w fun x32 w33 =>
 ∃ (I34 : List Value→World→Prop) (m35 : List Value→World→Nat),I34 [] w33∧∀ (u36 : Env) (w37 : World),I34 [] w37 →
 Ef PP (Instr.next x32 false Ty.t) w37 fun x38 w39 =>
 Ex x38 0 fun x40 =>
 Cnd x40 (
 Rd PP (Instr.entry x32) w39 fun x41 =>
 Ex x41 0 fun x42 =>
 Ex x41 1 fun x43 =>
 Sh.Dr w39 fun w44 =>
 Ld t3 w44 fun x45 =>
 Nc x45 fun x46 =>
 Fa 2 x46 fun x47 =>
 Ld x47 w44 fun x48 =>
 Ca PP Fn.f1 #[x43] w44 fun x49 w50 =>
 (Ld t3 w50 fun x51 =>
 x51 = x45) ∧
 (Ld x47 w50 fun x52 =>
 x52 = x48) ∧
 Ef PP (Instr.mapUpdate Ty.t0 x48 x42 x49) w50 fun _ w53 =>
 I34 [] w53∧m35 [] w53 < m35 [] w37) (
 Al Ty.t2 #[.nilFunc] w39 fun x54 w55 =>
 St PP 1 x54 (.func (.func Fn.f6) #[] #[x54,t3]) w55 fun w56 =>
 Sh.Dr w56 fun w57 =>
 Ld t3 w57 fun x58 =>
 Ld x54 w57 fun x59 =>
 Nc a0 fun x60 =>
 Fa 0 x60 fun x61 =>
 Ld x61 w57 fun x62 =>
 CaV PP x59 #[x62,(.pointer none)] w57 fun x63 w64 =>
 (Ld t3 w64 fun x65 =>
 x65 = x58) ∧
 Nc x58 fun x66 =>
 Fa 0 x66 fun x67 =>
 St PP 1 x67 x63 w64 fun w68 =>
 Ld t3 w68 fun x69 =>
 R x69 w68)
abbrev cl0(fm gm om:Nat)(X:PT)(v0:Value):List Value:=[v0,.map (some fm),.map (some gm),i64 X.next,i64 X.clock,.map (some om)]
theorem cloneT_ok (h : Tie D X T β) (hi : Inv T) {tp tt fm gm om : Nat}
    (E : Hs w0 F w (pt tp (oc [ptr tt] Ty.t10)::pt tt (oc (cl0 fm gm om X np) Ty.t17)::mp fm (.int .i64) []::mp gm .str []::mp om (.int .i64) []::tb X::mp X.fm (.int .i64) X.fM::mp X.gm .str X.gM::mp X.om (.int .i64) X.oM::NT X.ps::DT X.ds::Pool D::l)) :
    CloneT (ptr X.t) (ptr tp) (.map (some X.gm)) w fun r w'=>∃ D' Y β',r = ptr Y.t∧(∀ x∈D,x∈D')∧Tie D' Y { T with hs:=[] } β'∧Hs w0 F w' (trA Y::trA X::Pool D'::l):=by
  unfold CloneT
  have hkey : ∀ es : Array MapEntry,prs es.toList = X.gM→(es.toList.map fun e=>e.key).Nodup:=by
    intro es hes
    have h1 : (prs es.toList).map (·.1) = X.gM.map (·.1):=by rw [hes]
    unfold prs PT.gM encM at h1
    rw [List.map_map,List.map_map] at h1
    have h2 : es.toList.map (fun e=>e.key) = (X.gv.map (·.1)).map str:=by rw [List.map_map]; exact h1
    rw [h2,List.Nodup,List.pairwise_map]
    exact h.gs.nd.imp fun h e=>h (by injection e)
  refine Rg.mp (m:=X.gm) E u_mgroups ?_
  clear E
  intro it es clock w_ hit hes hw hok E
  have hnames : ∀ ms : List MapEntry,Wlk es clock ms→∀ V : List (BA × Value),ms.map (fun e=>(e.key,e.val)) = V.map (fun k=>(str k.1,k.2))→(V.map (·.1)).Nodup:=by
    intro ms hw V hmV
    have hk:=hkey es hes
    have h1 : (ms.map fun e=>e.key).Nodup:=by
      rw [List.Nodup,List.pairwise_map]
      have hnd:=hw.nd
      rw [List.Nodup,List.pairwise_map] at hnd
      exact hnd.imp_of_mem fun {a b} ha hb hab e=>hab (by rw [inj_map hk a (hw.sub a ha) b (hw.sub b hb) e])
    have h2 : ms.map (fun e=>e.key) = (V.map (·.1)).map str:=by
      have:=congrArg (List.map Prod.fst) hmV
      rw [List.map_map,List.map_map] at this
      rw [List.map_map]; exact this
    rw [h2] at h1
    exact List.Pairwise.of_map (S:=(· ≠ ·)) str (fun a b h e=>h (by rw [e])) h1
  refine ⟨fun l1 w1=>l1 = []∧∃ (ms : List MapEntry) (V gr : List (BA × Value)) (D' : List Row),Wlk es clock ms∧ms.map (fun e=>(e.key,e.val)) = V.map (fun k=>(str k.1,k.2))∧(∀ p∈V,p∈X.gv)∧gr.map (·.1) = V.map (·.1)∧(∀ x∈D,x∈D') ∧
      (∀ p∈gr,∃ us,getL T.gs p.1 = some us∧us.length≤16∧Rdy D' Ty.t9 p.2 (us.map str)) ∧
      Hs w0 F w1 (pt it (itO X.gm clock ms)::pt X.gm (mapO es clock)::mp gm .str (encM Value.string id gr)::pt tp (oc [ptr tt] Ty.t10)::pt tt (oc (cl0 fm gm om X np) Ty.t17)::mp fm (.int .i64) []::mp om (.int .i64) []::tb X::mp X.fm (.int .i64) X.fM::mp X.om (.int .i64) X.oM::NT X.ps::DT X.ds::Pool D'::l),
    fun _ w1=>itM it (es.size + 1) w1,⟨rfl,[],[],[],D,hw,rfl,(fun _ h=>by cases h),rfl,fun _ h=>h,(fun _ h=>by cases h),by (replace E:=((((((E.bIx 4).bIx 4).bIx 4).bIx 5).bIx 5).bIx 5)); exact E⟩,?_⟩
  clear E hw
  rintro u w1 ⟨-,ms,V,gr,D',hw,hmsV,hV,hgr,hD,hdone,E⟩
  refine Nx.mp E hw ?_ ?_
  · intro e w_ he hn2 hw2 E2
    have hmm : itM it (es.size + 1) w1 = es.size + 1 - ms.length:=itM_eq E
    have hle:=hw2.le
    simp only [List.length_append,List.length_cons,List.length_nil] at hle
    clear E
    have E:=E2
    clear E2
    repeat with_reducible refine Stp.go ?_
    refine Ent.mp E hw2 ?_
    obtain ⟨p,hp1,hke,hkv⟩ : ∃ p,p∈X.gv∧e.key = str p.1∧e.val = p.2:=by
      have hm : (e.key,e.val)∈X.gM:=by rw [← hes]; exact List.mem_map.2 ⟨e,he,rfl⟩
      obtain ⟨p,hp1,hpe⟩:=List.mem_map.1 hm
      exact ⟨p,hp1,(congrArg Prod.fst hpe).symm,(congrArg Prod.snd hpe).symm⟩
    obtain ⟨us,hus,hul,hur⟩ : ∃ us,getL T.gs p.1 = some us∧us.length≤16∧Rdy D' Ty.t9 p.2 (us.map str):=by
      have h1:=h.gs.at_ p.1
      have h2 : getL X.gv p.1 = some p.2:=(getL_some h.gs.nd).2 hp1
      cases hg : getL T.gs p.1 with
      | none=>rw [hg] at h1; rw [h1] at h2; cases h2
      | some us =>
        rw [hg] at h1
        obtain ⟨h3,v,h4,h5⟩:=h1
        rw [h2] at h4
        cases h4
        exact ⟨us,rfl,h3,h5.mono hD⟩
    rw [hke,hkv]
    repeat with_reducible first|refine Stp.go ?_|refine StpE.go E ?_|(refine StpW.go E ?_; clear E; intro w_ E)
    have hrd:=hur.read E (by simp)
    rw [List.length_map] at hrd
    have hrd':=hrd
    obtain ⟨pa,pc,hpv,-⟩:=hrd'
    refine (Clone_ok hrd (by omega) E).mono ?_
    clear E
    intro r w_ E
    refine ⟨by (repeat with_reducible refine StpE.go E ?_); rfl,by (repeat with_reducible refine StpE.go E ?_); rfl,?_⟩
    refine Mu.by E u_mgroups k_str rfl ?_
    clear E
    intro w_ E
    have hnm : ((V++[p]).map (·.1)).Nodup:=hnames (ms++[e]) hw2 (V++[p]) (by rw [List.map_append,List.map_append,hmsV]; simp [hke,hkv])
    have hfresh : p.1 ∉ gr.map (·.1):=by
      rw [hgr]
      rw [List.map_append,List.nodup_append] at hnm
      exact fun hc=>hnm.2.2 p.1 hc p.1 (by simp) rfl
    have he2 : aput (encM Value.string id gr) (str p.1) r = encM Value.string id (gr++[(p.1,r)]):=by rw [← putL_new hfresh]; exact aput_enc (ev:=id) keyS _ _ _
    rw [he2] at E
    (replace E:=((E.bIx 13).bIx 1))
    replace E:=Hs.pool Ty.t9 E
    (replace E:=(((((((((((((E.bIx 0).bIx 12).bIx 12).bIx 12).bIx 12).bIx 12).bIx 12).bIx 12).bIx 12).bIx 12).bIx 12).bIx 12).bIx 12))
    refine ⟨⟨rfl,ms++[e],V++[p],gr++[(p.1,r)],_,hw2,by rw [List.map_append,List.map_append,hmsV]; simp [hke,hkv],?_,by rw [List.map_append,List.map_append,hgr]; rfl,fun x hx=>List.mem_cons_of_mem _ (hD x hx),?_,E⟩,?_⟩
    · intro x hx
      rcases List.mem_append.1 hx with hx | hx
      · exact hV x hx
      · rw [List.mem_singleton.1 hx]; exact hp1
    · intro x hx
      rcases List.mem_append.1 hx with hx | hx
      · obtain ⟨us2,g1,g2,g3⟩:=hdone x hx
        exact ⟨us2,g1,g2,g3.mono fun y hy=>List.mem_cons_of_mem _ hy⟩
      · rw [List.mem_singleton.1 hx]
        exact ⟨us,hus,hul,.inr List.mem_cons_self⟩
    · show itM it (es.size + 1) w_ < itM it (es.size + 1) w1
      rw [hmm,itM_eq E]
      simp; omega
  · intro hp2
    have hkeys : (V.map (·.1)).Perm (X.gv.map (·.1)):=by
      have h1 : (prs es.toList).Perm (ms.map fun e=>(e.key,e.val)):=hp2.map _
      rw [hes,hmsV] at h1
      have h2:=h1.map fun p : Value × Value=>match p with|(.string s,_)=>s | _=>emp
      unfold PT.gM encM at h2
      rw [List.map_map,List.map_map] at h2
      exact h2.symm
    have hgn : (gr.map (·.1)).Nodup:=by rw [hgr]; exact hkeys.nodup_iff.2 h.gs.nd
    have hgt : GTie D' gr T.gs:=by
      refine ⟨fun y=>?_,hgn⟩
      have h1:=h.gs.at_ y
      cases hg : getL T.gs y with
      | none =>
        rw [hg] at h1
        simp only [] at h1 ⊢
        rw [getL_none] at h1 ⊢
        rw [hgr]
        exact fun hc=>h1 (hkeys.mem_iff.1 hc)
      | some us =>
        rw [hg] at h1
        obtain ⟨h2,v,h3,h4⟩:=h1
        simp only []
        have h5 : y∈gr.map (·.1):=by
          rw [hgr,hkeys.mem_iff]
          exact List.mem_map.2 ⟨_,(getL_some h.gs.nd).1 h3,rfl⟩
        obtain ⟨p,hp1,hpy⟩:=List.mem_map.1 h5
        obtain ⟨us2,g1,g2,g3⟩:=hdone p hp1
        have hpy : p.1 = y:=hpy
        rw [hpy,hg] at g1
        cases g1
        exact ⟨h2,p.2,(getL_some hgn).2 (by rw [← hpy]; exact hp1),g3⟩
    have h':=h.monoD hD
    replace E:=Hs.mapBack (m:=X.gm) (kt:=.str) (M:=X.gM) E hes hw hok
    replace E:=(E.bIx 1).tl
    repeat with_reducible first|refine Stp.go ?_|refine StpE.go E ?_|(refine StpW.go E ?_; clear E; intro w_ E)|(refine StpA.go E ?_; clear E; intro b_ w_ hb_ E)
    (revert b_; intro tw hbtw E)
    obtain ⟨r0,hr0,hr1,hr2⟩:=h.root
    obtain ⟨rk,hrk,hrb⟩:=hi.rankB
    have hg0 : T.get 0 = some r0.f:=hi.get.2 ⟨h.mem.2 ⟨r0,hr0,rfl⟩,hr1⟩
    have E2 : Hs w0 F w_ (NT []::_):=Hs.starNil E
    clear E
    have E:=E2
    clear E2
    (replace E:=((((((((((((((E.bIx 12).bIx 11).bIx 11).bIx 11).bIx 11).bIx 8).bIx 8).bIx 13).bIx 8).bIx 12).bIx 12).bIx 12).bIx 12).bIx 13))
    rw [← hr2]
    refine (twin_ok h' hi hrk hrb 2000 (n:=r0) (R:=X.ps) (Q:=[]) (ub:=none) hr0 (fun _ h=>h) (fun m hm _=>hm) (by omega) (fun _ h=>by cases h) E).mono ?_
    clear E
    rintro r w_ ⟨Q2,q0,rfl,hq0,hq0f,hq0u,hQ2,hd2,E⟩
    rw [List.nil_append] at E hd2
    refine ⟨by (repeat with_reducible refine StpE.go E ?_); rfl,?_⟩
    repeat with_reducible first|refine Stp.go ?_|refine StpE.go E ?_|(refine StpW.go E ?_; clear E; intro w_ E)
    obtain ⟨Y,hY⟩ : ∃ Y : PT,Y = ⟨tt,q0.blk,fm,gm,om,X.next,X.clock,Q2,[],flQ Q2,gr,[]⟩:=⟨_,rfl⟩
    obtain ⟨β',hT⟩:=tie_of_done (Y:=Y) hi (hQ2.trans (below_whole hi hg0)) hd2 hq0 (by rw [hq0f,hr1]) hq0u (by rw [hY]) (by rw [hY]) (by rw [hY]) (by rw [hY]; exact hgt) (by rw [hY]) (by rw [hY]; exact h.clock) (by rw [hY]; exact h.next)
    refine ⟨D',Y,β',by rw [hY],hD,hT,?_⟩
    have E2 : Hs w0 F w_ (DT []::_):=Hs.starNil E
    clear E
    have E:=E2
    clear E2
    (replace E:=(((((((((((((((E.bIx 3).bIx 3).bIx 7).bIx 3).bIx 7).bIx 10).bIx 10).bIx 9).bIx 9).bIx 14).bIx 10).bIx 14).bIx 12).bIx 14).bIx 14))
    replace E:=Hs.closeT X E
    (replace E:=((((((((((E.bIx 9).bIx 9).bIx 9).bIx 3).bIx 9).bIx 9).bIx 9).bIx 9).bIx 9).bIx 9))
    have E2 : Hs w0 F w_ (tb Y::mp Y.fm (.int .i64) Y.fM::mp Y.gm .str Y.gM::mp Y.om (.int .i64) Y.oM::NT Y.ps::DT Y.ds::trA X::Pool D'::twA tw tp::twB tp tt::l):=by rw [hY]; exact E
    replace E2:=Hs.closeT Y E2
    exact E2.drop (List.Sublist.cons_cons _ (List.Sublist.cons_cons _ (List.Sublist.cons_cons _ (List.sublist_append_right [_,_] l))))
theorem TClone_ok(h:Tie D X T β)(hi:Inv T)(E:Hs w0 F w (trA X::Pool D::l)):
  Ca PP Fn.f77 #[ptr X.t] w λr w'=>∃D' Y β',r=ptr Y.t∧(∀x∈D,x∈D')∧Tie D' Y {T with hs:=[]} β'∧Hs w0 F w' (trA Y::trA X::Pool D'::l):=by
 refine S.f77.calls ?_
 unfold S.f77
 have fin:∀{R:Value→World→Prop} (hR:R=λr w'=>∃D' Y β',r=ptr Y.t∧(∀x∈D,x∈D')∧Tie D' Y {T with hs:=[]} β'∧Hs w0 F w' (trA Y::trA X::Pool D'::l)) (w:World) (tp tt fm gm om:Nat),Hs w0 F w (pt tp (oc [ptr tt] Ty.t10)::pt tt (oc (cl0 fm gm om X np) Ty.t17)::mp fm (.int .i64) []::mp gm .str []::mp om (.int .i64) []::tb X::mp X.fm (.int .i64) X.fM::mp X.gm .str X.gM::mp X.om (.int .i64) X.oM::NT X.ps::DT X.ds::Pool D::l)→CloneT (ptr X.t) (ptr tp) (.map (some X.gm)) w R:=by
  rintro R rfl w tp tt fm gm om E
  exact cloneT_ok h hi E
 unfold CloneT at fin
 refine Eq.ef u_p_tree rfl ?_
 replace E:=Hs.openT E
 repeat with_reducible first|refine Stp.go ?_|refine StpE.go E ?_|(refine StpW.go E ?_;clear E;intro w_ E)
 refine⟨?_,?_,?_,?_,trivial⟩
 ·refine MkM.pt (kt:=.int .i64) E ?_
  clear E
  intro fm w_ _ E
  refine⟨by (repeat with_reducible first|refine Stp.go ?_|refine StpE.go E ?_);rfl,?_⟩
  refine⟨by (repeat with_reducible first|refine Stp.go ?_|refine StpE.go E ?_);rfl,?_⟩
  refine⟨?_,?_,?_,trivial⟩
  ·refine MkM.pt (kt:=.str) E ?_
   clear E
   intro gm w_ _ E
   refine⟨by (repeat with_reducible first|refine Stp.go ?_|refine StpE.go E ?_);rfl,?_⟩
   refine⟨by (repeat with_reducible first|refine Stp.go ?_|refine StpE.go E ?_);rfl,?_⟩
   refine⟨?_,?_,trivial⟩
   ·refine MkM.pt (kt:=.int .i64) E ?_
    clear E
    intro om w_ _ E
    refine⟨by (repeat with_reducible first|refine Stp.go ?_|refine StpE.go E ?_);rfl,?_⟩
    refine⟨by (repeat with_reducible first|refine Stp.go ?_|refine StpE.go E ?_);rfl,?_⟩
    repeat with_reducible first|refine Stp.go ?_|refine StpE.go E ?_
    refine⟨?_,?_,trivial⟩
    ·(repeat with_reducible first|refine Stp.go ?_|refine StpE.go E ?_)
     refine StpA.go E ?_
     clear E
     intro tt w_ _ E
     repeat with_reducible first|refine Stp.go ?_|refine StpE.go E ?_
     refine StpA.go E ?_
     clear E
     intro tp w_ _ E
     refine⟨by (repeat with_reducible first|refine Stp.go ?_|refine StpE.go E ?_);rfl,?_⟩
     refine⟨by (repeat with_reducible first|refine Stp.go ?_|refine StpE.go E ?_);rfl,?_⟩
     repeat with_reducible first|refine Stp.go ?_|refine StpE.go E ?_|(refine StpW.go E ?_;clear E;intro w_ E)
     (replace E:=(((((E.bMp om).bMp gm).bMp fm).bPt tt).bPt tp))
     exact fin rfl _ _ _ _ _ _ E
    ·(repeat with_reducible first|refine Stp.go ?_|refine StpE.go E ?_)
     refine StpA.go E ?_
     clear E
     intro tp w_ _ E
     refine⟨by (repeat with_reducible first|refine Stp.go ?_|refine StpE.go E ?_);rfl,?_⟩
     refine⟨by (repeat with_reducible first|refine Stp.go ?_|refine StpE.go E ?_);rfl,?_⟩
     repeat with_reducible first|refine Stp.go ?_|refine StpE.go E ?_
     refine StpA.go E ?_
     clear E
     intro tt w_ _ E
     repeat with_reducible first|refine Stp.go ?_|refine StpE.go E ?_|(refine StpW.go E ?_;clear E;intro w_ E)
     (replace E:=(((((E.bMp om).bMp gm).bMp fm).bPt tt).bPt tp))
     exact fin rfl _ _ _ _ _ _ E
   ·(repeat with_reducible first|refine Stp.go ?_|refine StpE.go E ?_)
    refine StpA.go E ?_
    clear E
    intro tp w_ _ E
    refine⟨by (repeat with_reducible first|refine Stp.go ?_|refine StpE.go E ?_);rfl,?_⟩
    refine⟨by (repeat with_reducible first|refine Stp.go ?_|refine StpE.go E ?_);rfl,?_⟩
    refine MkM.pt (kt:=.int .i64) E ?_
    clear E
    intro om w_ _ E
    refine⟨by (repeat with_reducible first|refine Stp.go ?_|refine StpE.go E ?_);rfl,?_⟩
    refine⟨by (repeat with_reducible first|refine Stp.go ?_|refine StpE.go E ?_);rfl,?_⟩
    repeat with_reducible first|refine Stp.go ?_|refine StpE.go E ?_
    refine StpA.go E ?_
    clear E
    intro tt w_ _ E
    repeat with_reducible first|refine Stp.go ?_|refine StpE.go E ?_|(refine StpW.go E ?_;clear E;intro w_ E)
    (replace E:=(((((E.bMp om).bMp gm).bMp fm).bPt tt).bPt tp))
    exact fin rfl _ _ _ _ _ _ E
  ·refine MkM.pt (kt:=.int .i64) E ?_
   clear E
   intro om w_ _ E
   refine⟨by (repeat with_reducible first|refine Stp.go ?_|refine StpE.go E ?_);rfl,?_⟩
   refine⟨by (repeat with_reducible first|refine Stp.go ?_|refine StpE.go E ?_);rfl,?_⟩
   refine⟨?_,?_,trivial⟩
   ·refine MkM.pt (kt:=.str) E ?_
    clear E
    intro gm w_ _ E
    refine⟨by (repeat with_reducible first|refine Stp.go ?_|refine StpE.go E ?_);rfl,?_⟩
    refine⟨by (repeat with_reducible first|refine Stp.go ?_|refine StpE.go E ?_);rfl,?_⟩
    repeat with_reducible first|refine Stp.go ?_|refine StpE.go E ?_
    refine⟨?_,?_,trivial⟩
    ·(repeat with_reducible first|refine Stp.go ?_|refine StpE.go E ?_)
     refine StpA.go E ?_
     clear E
     intro tt w_ _ E
     repeat with_reducible first|refine Stp.go ?_|refine StpE.go E ?_
     refine StpA.go E ?_
     clear E
     intro tp w_ _ E
     refine⟨by (repeat with_reducible first|refine Stp.go ?_|refine StpE.go E ?_);rfl,?_⟩
     refine⟨by (repeat with_reducible first|refine Stp.go ?_|refine StpE.go E ?_);rfl,?_⟩
     repeat with_reducible first|refine Stp.go ?_|refine StpE.go E ?_|(refine StpW.go E ?_;clear E;intro w_ E)
     (replace E:=(((((E.bMp om).bMp gm).bMp fm).bPt tt).bPt tp))
     exact fin rfl _ _ _ _ _ _ E
    ·(repeat with_reducible first|refine Stp.go ?_|refine StpE.go E ?_)
     refine StpA.go E ?_
     clear E
     intro tp w_ _ E
     refine⟨by (repeat with_reducible first|refine Stp.go ?_|refine StpE.go E ?_);rfl,?_⟩
     refine⟨by (repeat with_reducible first|refine Stp.go ?_|refine StpE.go E ?_);rfl,?_⟩
     repeat with_reducible first|refine Stp.go ?_|refine StpE.go E ?_
     refine StpA.go E ?_
     clear E
     intro tt w_ _ E
     repeat with_reducible first|refine Stp.go ?_|refine StpE.go E ?_|(refine StpW.go E ?_;clear E;intro w_ E)
     (replace E:=(((((E.bMp om).bMp gm).bMp fm).bPt tt).bPt tp))
     exact fin rfl _ _ _ _ _ _ E
   ·(repeat with_reducible first|refine Stp.go ?_|refine StpE.go E ?_)
    refine StpA.go E ?_
    clear E
    intro tp w_ _ E
    refine⟨by (repeat with_reducible first|refine Stp.go ?_|refine StpE.go E ?_);rfl,?_⟩
    refine⟨by (repeat with_reducible first|refine Stp.go ?_|refine StpE.go E ?_);rfl,?_⟩
    refine MkM.pt (kt:=.str) E ?_
    clear E
    intro gm w_ _ E
    refine⟨by (repeat with_reducible first|refine Stp.go ?_|refine StpE.go E ?_);rfl,?_⟩
    refine⟨by (repeat with_reducible first|refine Stp.go ?_|refine StpE.go E ?_);rfl,?_⟩
    repeat with_reducible first|refine Stp.go ?_|refine StpE.go E ?_
    refine StpA.go E ?_
    clear E
    intro tt w_ _ E
    repeat with_reducible first|refine Stp.go ?_|refine StpE.go E ?_|(refine StpW.go E ?_;clear E;intro w_ E)
    (replace E:=(((((E.bMp om).bMp gm).bMp fm).bPt tt).bPt tp))
    exact fin rfl _ _ _ _ _ _ E
  ·(repeat with_reducible first|refine Stp.go ?_|refine StpE.go E ?_)
   refine StpA.go E ?_
   clear E
   intro tp w_ _ E
   refine⟨by (repeat with_reducible first|refine Stp.go ?_|refine StpE.go E ?_);rfl,?_⟩
   refine⟨by (repeat with_reducible first|refine Stp.go ?_|refine StpE.go E ?_);rfl,?_⟩
   refine⟨?_,?_,trivial⟩
   ·refine MkM.pt (kt:=.str) E ?_
    clear E
    intro gm w_ _ E
    refine⟨by (repeat with_reducible first|refine Stp.go ?_|refine StpE.go E ?_);rfl,?_⟩
    refine⟨by (repeat with_reducible first|refine Stp.go ?_|refine StpE.go E ?_);rfl,?_⟩
    refine MkM.pt (kt:=.int .i64) E ?_
    clear E
    intro om w_ _ E
    refine⟨by (repeat with_reducible first|refine Stp.go ?_|refine StpE.go E ?_);rfl,?_⟩
    refine⟨by (repeat with_reducible first|refine Stp.go ?_|refine StpE.go E ?_);rfl,?_⟩
    repeat with_reducible first|refine Stp.go ?_|refine StpE.go E ?_
    refine StpA.go E ?_
    clear E
    intro tt w_ _ E
    repeat with_reducible first|refine Stp.go ?_|refine StpE.go E ?_|(refine StpW.go E ?_;clear E;intro w_ E)
    (replace E:=(((((E.bMp om).bMp gm).bMp fm).bPt tt).bPt tp))
    exact fin rfl _ _ _ _ _ _ E
   ·refine MkM.pt (kt:=.int .i64) E ?_
    clear E
    intro om w_ _ E
    refine⟨by (repeat with_reducible first|refine Stp.go ?_|refine StpE.go E ?_);rfl,?_⟩
    refine⟨by (repeat with_reducible first|refine Stp.go ?_|refine StpE.go E ?_);rfl,?_⟩
    refine MkM.pt (kt:=.str) E ?_
    clear E
    intro gm w_ _ E
    refine⟨by (repeat with_reducible first|refine Stp.go ?_|refine StpE.go E ?_);rfl,?_⟩
    refine⟨by (repeat with_reducible first|refine Stp.go ?_|refine StpE.go E ?_);rfl,?_⟩
    repeat with_reducible first|refine Stp.go ?_|refine StpE.go E ?_
    refine StpA.go E ?_
    clear E
    intro tt w_ _ E
    repeat with_reducible first|refine Stp.go ?_|refine StpE.go E ?_|(refine StpW.go E ?_;clear E;intro w_ E)
    (replace E:=(((((E.bMp om).bMp gm).bMp fm).bPt tt).bPt tp))
    exact fin rfl _ _ _ _ _ _ E
 ·refine MkM.pt (kt:=.str) E ?_
  clear E
  intro gm w_ _ E
  refine⟨by (repeat with_reducible first|refine Stp.go ?_|refine StpE.go E ?_);rfl,?_⟩
  refine⟨by (repeat with_reducible first|refine Stp.go ?_|refine StpE.go E ?_);rfl,?_⟩
  refine⟨?_,?_,?_,trivial⟩
  ·refine MkM.pt (kt:=.int .i64) E ?_
   clear E
   intro fm w_ _ E
   refine⟨by (repeat with_reducible first|refine Stp.go ?_|refine StpE.go E ?_);rfl,?_⟩
   refine⟨by (repeat with_reducible first|refine Stp.go ?_|refine StpE.go E ?_);rfl,?_⟩
   refine⟨?_,?_,trivial⟩
   ·refine MkM.pt (kt:=.int .i64) E ?_
    clear E
    intro om w_ _ E
    refine⟨by (repeat with_reducible first|refine Stp.go ?_|refine StpE.go E ?_);rfl,?_⟩
    refine⟨by (repeat with_reducible first|refine Stp.go ?_|refine StpE.go E ?_);rfl,?_⟩
    repeat with_reducible first|refine Stp.go ?_|refine StpE.go E ?_
    refine⟨?_,?_,trivial⟩
    ·(repeat with_reducible first|refine Stp.go ?_|refine StpE.go E ?_)
     refine StpA.go E ?_
     clear E
     intro tt w_ _ E
     repeat with_reducible first|refine Stp.go ?_|refine StpE.go E ?_
     refine StpA.go E ?_
     clear E
     intro tp w_ _ E
     refine⟨by (repeat with_reducible first|refine Stp.go ?_|refine StpE.go E ?_);rfl,?_⟩
     refine⟨by (repeat with_reducible first|refine Stp.go ?_|refine StpE.go E ?_);rfl,?_⟩
     repeat with_reducible first|refine Stp.go ?_|refine StpE.go E ?_|(refine StpW.go E ?_;clear E;intro w_ E)
     (replace E:=(((((E.bMp om).bMp gm).bMp fm).bPt tt).bPt tp))
     exact fin rfl _ _ _ _ _ _ E
    ·(repeat with_reducible first|refine Stp.go ?_|refine StpE.go E ?_)
     refine StpA.go E ?_
     clear E
     intro tp w_ _ E
     refine⟨by (repeat with_reducible first|refine Stp.go ?_|refine StpE.go E ?_);rfl,?_⟩
     refine⟨by (repeat with_reducible first|refine Stp.go ?_|refine StpE.go E ?_);rfl,?_⟩
     repeat with_reducible first|refine Stp.go ?_|refine StpE.go E ?_
     refine StpA.go E ?_
     clear E
     intro tt w_ _ E
     repeat with_reducible first|refine Stp.go ?_|refine StpE.go E ?_|(refine StpW.go E ?_;clear E;intro w_ E)
     (replace E:=(((((E.bMp om).bMp gm).bMp fm).bPt tt).bPt tp))
     exact fin rfl _ _ _ _ _ _ E
   ·(repeat with_reducible first|refine Stp.go ?_|refine StpE.go E ?_)
    refine StpA.go E ?_
    clear E
    intro tp w_ _ E
    refine⟨by (repeat with_reducible first|refine Stp.go ?_|refine StpE.go E ?_);rfl,?_⟩
    refine⟨by (repeat with_reducible first|refine Stp.go ?_|refine StpE.go E ?_);rfl,?_⟩
    refine MkM.pt (kt:=.int .i64) E ?_
    clear E
    intro om w_ _ E
    refine⟨by (repeat with_reducible first|refine Stp.go ?_|refine StpE.go E ?_);rfl,?_⟩
    refine⟨by (repeat with_reducible first|refine Stp.go ?_|refine StpE.go E ?_);rfl,?_⟩
    repeat with_reducible first|refine Stp.go ?_|refine StpE.go E ?_
    refine StpA.go E ?_
    clear E
    intro tt w_ _ E
    repeat with_reducible first|refine Stp.go ?_|refine StpE.go E ?_|(refine StpW.go E ?_;clear E;intro w_ E)
    (replace E:=(((((E.bMp om).bMp gm).bMp fm).bPt tt).bPt tp))
    exact fin rfl _ _ _ _ _ _ E
  ·refine MkM.pt (kt:=.int .i64) E ?_
   clear E
   intro om w_ _ E
   refine⟨by (repeat with_reducible first|refine Stp.go ?_|refine StpE.go E ?_);rfl,?_⟩
   refine⟨by (repeat with_reducible first|refine Stp.go ?_|refine StpE.go E ?_);rfl,?_⟩
   refine⟨?_,?_,trivial⟩
   ·refine MkM.pt (kt:=.int .i64) E ?_
    clear E
    intro fm w_ _ E
    refine⟨by (repeat with_reducible first|refine Stp.go ?_|refine StpE.go E ?_);rfl,?_⟩
    refine⟨by (repeat with_reducible first|refine Stp.go ?_|refine StpE.go E ?_);rfl,?_⟩
    repeat with_reducible first|refine Stp.go ?_|refine StpE.go E ?_
    refine⟨?_,?_,trivial⟩
    ·(repeat with_reducible first|refine Stp.go ?_|refine StpE.go E ?_)
     refine StpA.go E ?_
     clear E
     intro tt w_ _ E
     repeat with_reducible first|refine Stp.go ?_|refine StpE.go E ?_
     refine StpA.go E ?_
     clear E
     intro tp w_ _ E
     refine⟨by (repeat with_reducible first|refine Stp.go ?_|refine StpE.go E ?_);rfl,?_⟩
     refine⟨by (repeat with_reducible first|refine Stp.go ?_|refine StpE.go E ?_);rfl,?_⟩
     repeat with_reducible first|refine Stp.go ?_|refine StpE.go E ?_|(refine StpW.go E ?_;clear E;intro w_ E)
     (replace E:=(((((E.bMp om).bMp gm).bMp fm).bPt tt).bPt tp))
     exact fin rfl _ _ _ _ _ _ E
    ·(repeat with_reducible first|refine Stp.go ?_|refine StpE.go E ?_)
     refine StpA.go E ?_
     clear E
     intro tp w_ _ E
     refine⟨by (repeat with_reducible first|refine Stp.go ?_|refine StpE.go E ?_);rfl,?_⟩
     refine⟨by (repeat with_reducible first|refine Stp.go ?_|refine StpE.go E ?_);rfl,?_⟩
     repeat with_reducible first|refine Stp.go ?_|refine StpE.go E ?_
     refine StpA.go E ?_
     clear E
     intro tt w_ _ E
     repeat with_reducible first|refine Stp.go ?_|refine StpE.go E ?_|(refine StpW.go E ?_;clear E;intro w_ E)
     (replace E:=(((((E.bMp om).bMp gm).bMp fm).bPt tt).bPt tp))
     exact fin rfl _ _ _ _ _ _ E
   ·(repeat with_reducible first|refine Stp.go ?_|refine StpE.go E ?_)
    refine StpA.go E ?_
    clear E
    intro tp w_ _ E
    refine⟨by (repeat with_reducible first|refine Stp.go ?_|refine StpE.go E ?_);rfl,?_⟩
    refine⟨by (repeat with_reducible first|refine Stp.go ?_|refine StpE.go E ?_);rfl,?_⟩
    refine MkM.pt (kt:=.int .i64) E ?_
    clear E
    intro fm w_ _ E
    refine⟨by (repeat with_reducible first|refine Stp.go ?_|refine StpE.go E ?_);rfl,?_⟩
    refine⟨by (repeat with_reducible first|refine Stp.go ?_|refine StpE.go E ?_);rfl,?_⟩
    repeat with_reducible first|refine Stp.go ?_|refine StpE.go E ?_
    refine StpA.go E ?_
    clear E
    intro tt w_ _ E
    repeat with_reducible first|refine Stp.go ?_|refine StpE.go E ?_|(refine StpW.go E ?_;clear E;intro w_ E)
    (replace E:=(((((E.bMp om).bMp gm).bMp fm).bPt tt).bPt tp))
    exact fin rfl _ _ _ _ _ _ E
  ·(repeat with_reducible first|refine Stp.go ?_|refine StpE.go E ?_)
   refine StpA.go E ?_
   clear E
   intro tp w_ _ E
   refine⟨by (repeat with_reducible first|refine Stp.go ?_|refine StpE.go E ?_);rfl,?_⟩
   refine⟨by (repeat with_reducible first|refine Stp.go ?_|refine StpE.go E ?_);rfl,?_⟩
   refine⟨?_,?_,trivial⟩
   ·refine MkM.pt (kt:=.int .i64) E ?_
    clear E
    intro fm w_ _ E
    refine⟨by (repeat with_reducible first|refine Stp.go ?_|refine StpE.go E ?_);rfl,?_⟩
    refine⟨by (repeat with_reducible first|refine Stp.go ?_|refine StpE.go E ?_);rfl,?_⟩
    refine MkM.pt (kt:=.int .i64) E ?_
    clear E
    intro om w_ _ E
    refine⟨by (repeat with_reducible first|refine Stp.go ?_|refine StpE.go E ?_);rfl,?_⟩
    refine⟨by (repeat with_reducible first|refine Stp.go ?_|refine StpE.go E ?_);rfl,?_⟩
    repeat with_reducible first|refine Stp.go ?_|refine StpE.go E ?_
    refine StpA.go E ?_
    clear E
    intro tt w_ _ E
    repeat with_reducible first|refine Stp.go ?_|refine StpE.go E ?_|(refine StpW.go E ?_;clear E;intro w_ E)
    (replace E:=(((((E.bMp om).bMp gm).bMp fm).bPt tt).bPt tp))
    exact fin rfl _ _ _ _ _ _ E
   ·refine MkM.pt (kt:=.int .i64) E ?_
    clear E
    intro om w_ _ E
    refine⟨by (repeat with_reducible first|refine Stp.go ?_|refine StpE.go E ?_);rfl,?_⟩
    refine⟨by (repeat with_reducible first|refine Stp.go ?_|refine StpE.go E ?_);rfl,?_⟩
    refine MkM.pt (kt:=.int .i64) E ?_
    clear E
    intro fm w_ _ E
    refine⟨by (repeat with_reducible first|refine Stp.go ?_|refine StpE.go E ?_);rfl,?_⟩
    refine⟨by (repeat with_reducible first|refine Stp.go ?_|refine StpE.go E ?_);rfl,?_⟩
    repeat with_reducible first|refine Stp.go ?_|refine StpE.go E ?_
    refine StpA.go E ?_
    clear E
    intro tt w_ _ E
    repeat with_reducible first|refine Stp.go ?_|refine StpE.go E ?_|(refine StpW.go E ?_;clear E;intro w_ E)
    (replace E:=(((((E.bMp om).bMp gm).bMp fm).bPt tt).bPt tp))
    exact fin rfl _ _ _ _ _ _ E
 ·refine MkM.pt (kt:=.int .i64) E ?_
  clear E
  intro om w_ _ E
  refine⟨by (repeat with_reducible first|refine Stp.go ?_|refine StpE.go E ?_);rfl,?_⟩
  refine⟨by (repeat with_reducible first|refine Stp.go ?_|refine StpE.go E ?_);rfl,?_⟩
  refine⟨?_,?_,?_,trivial⟩
  ·refine MkM.pt (kt:=.int .i64) E ?_
   clear E
   intro fm w_ _ E
   refine⟨by (repeat with_reducible first|refine Stp.go ?_|refine StpE.go E ?_);rfl,?_⟩
   refine⟨by (repeat with_reducible first|refine Stp.go ?_|refine StpE.go E ?_);rfl,?_⟩
   refine⟨?_,?_,trivial⟩
   ·refine MkM.pt (kt:=.str) E ?_
    clear E
    intro gm w_ _ E
    refine⟨by (repeat with_reducible first|refine Stp.go ?_|refine StpE.go E ?_);rfl,?_⟩
    refine⟨by (repeat with_reducible first|refine Stp.go ?_|refine StpE.go E ?_);rfl,?_⟩
    repeat with_reducible first|refine Stp.go ?_|refine StpE.go E ?_
    refine⟨?_,?_,trivial⟩
    ·(repeat with_reducible first|refine Stp.go ?_|refine StpE.go E ?_)
     refine StpA.go E ?_
     clear E
     intro tt w_ _ E
     repeat with_reducible first|refine Stp.go ?_|refine StpE.go E ?_
     refine StpA.go E ?_
     clear E
     intro tp w_ _ E
     refine⟨by (repeat with_reducible first|refine Stp.go ?_|refine StpE.go E ?_);rfl,?_⟩
     refine⟨by (repeat with_reducible first|refine Stp.go ?_|refine StpE.go E ?_);rfl,?_⟩
     repeat with_reducible first|refine Stp.go ?_|refine StpE.go E ?_|(refine StpW.go E ?_;clear E;intro w_ E)
     (replace E:=(((((E.bMp om).bMp gm).bMp fm).bPt tt).bPt tp))
     exact fin rfl _ _ _ _ _ _ E
    ·(repeat with_reducible first|refine Stp.go ?_|refine StpE.go E ?_)
     refine StpA.go E ?_
     clear E
     intro tp w_ _ E
     refine⟨by (repeat with_reducible first|refine Stp.go ?_|refine StpE.go E ?_);rfl,?_⟩
     refine⟨by (repeat with_reducible first|refine Stp.go ?_|refine StpE.go E ?_);rfl,?_⟩
     repeat with_reducible first|refine Stp.go ?_|refine StpE.go E ?_
     refine StpA.go E ?_
     clear E
     intro tt w_ _ E
     repeat with_reducible first|refine Stp.go ?_|refine StpE.go E ?_|(refine StpW.go E ?_;clear E;intro w_ E)
     (replace E:=(((((E.bMp om).bMp gm).bMp fm).bPt tt).bPt tp))
     exact fin rfl _ _ _ _ _ _ E
   ·(repeat with_reducible first|refine Stp.go ?_|refine StpE.go E ?_)
    refine StpA.go E ?_
    clear E
    intro tp w_ _ E
    refine⟨by (repeat with_reducible first|refine Stp.go ?_|refine StpE.go E ?_);rfl,?_⟩
    refine⟨by (repeat with_reducible first|refine Stp.go ?_|refine StpE.go E ?_);rfl,?_⟩
    refine MkM.pt (kt:=.str) E ?_
    clear E
    intro gm w_ _ E
    refine⟨by (repeat with_reducible first|refine Stp.go ?_|refine StpE.go E ?_);rfl,?_⟩
    refine⟨by (repeat with_reducible first|refine Stp.go ?_|refine StpE.go E ?_);rfl,?_⟩
    repeat with_reducible first|refine Stp.go ?_|refine StpE.go E ?_
    refine StpA.go E ?_
    clear E
    intro tt w_ _ E
    repeat with_reducible first|refine Stp.go ?_|refine StpE.go E ?_|(refine StpW.go E ?_;clear E;intro w_ E)
    (replace E:=(((((E.bMp om).bMp gm).bMp fm).bPt tt).bPt tp))
    exact fin rfl _ _ _ _ _ _ E
  ·refine MkM.pt (kt:=.str) E ?_
   clear E
   intro gm w_ _ E
   refine⟨by (repeat with_reducible first|refine Stp.go ?_|refine StpE.go E ?_);rfl,?_⟩
   refine⟨by (repeat with_reducible first|refine Stp.go ?_|refine StpE.go E ?_);rfl,?_⟩
   refine⟨?_,?_,trivial⟩
   ·refine MkM.pt (kt:=.int .i64) E ?_
    clear E
    intro fm w_ _ E
    refine⟨by (repeat with_reducible first|refine Stp.go ?_|refine StpE.go E ?_);rfl,?_⟩
    refine⟨by (repeat with_reducible first|refine Stp.go ?_|refine StpE.go E ?_);rfl,?_⟩
    repeat with_reducible first|refine Stp.go ?_|refine StpE.go E ?_
    refine⟨?_,?_,trivial⟩
    ·(repeat with_reducible first|refine Stp.go ?_|refine StpE.go E ?_)
     refine StpA.go E ?_
     clear E
     intro tt w_ _ E
     repeat with_reducible first|refine Stp.go ?_|refine StpE.go E ?_
     refine StpA.go E ?_
     clear E
     intro tp w_ _ E
     refine⟨by (repeat with_reducible first|refine Stp.go ?_|refine StpE.go E ?_);rfl,?_⟩
     refine⟨by (repeat with_reducible first|refine Stp.go ?_|refine StpE.go E ?_);rfl,?_⟩
     repeat with_reducible first|refine Stp.go ?_|refine StpE.go E ?_|(refine StpW.go E ?_;clear E;intro w_ E)
     (replace E:=(((((E.bMp om).bMp gm).bMp fm).bPt tt).bPt tp))
     exact fin rfl _ _ _ _ _ _ E
    ·(repeat with_reducible first|refine Stp.go ?_|refine StpE.go E ?_)
     refine StpA.go E ?_
     clear E
     intro tp w_ _ E
     refine⟨by (repeat with_reducible first|refine Stp.go ?_|refine StpE.go E ?_);rfl,?_⟩
     refine⟨by (repeat with_reducible first|refine Stp.go ?_|refine StpE.go E ?_);rfl,?_⟩
     repeat with_reducible first|refine Stp.go ?_|refine StpE.go E ?_
     refine StpA.go E ?_
     clear E
     intro tt w_ _ E
     repeat with_reducible first|refine Stp.go ?_|refine StpE.go E ?_|(refine StpW.go E ?_;clear E;intro w_ E)
     (replace E:=(((((E.bMp om).bMp gm).bMp fm).bPt tt).bPt tp))
     exact fin rfl _ _ _ _ _ _ E
   ·(repeat with_reducible first|refine Stp.go ?_|refine StpE.go E ?_)
    refine StpA.go E ?_
    clear E
    intro tp w_ _ E
    refine⟨by (repeat with_reducible first|refine Stp.go ?_|refine StpE.go E ?_);rfl,?_⟩
    refine⟨by (repeat with_reducible first|refine Stp.go ?_|refine StpE.go E ?_);rfl,?_⟩
    refine MkM.pt (kt:=.int .i64) E ?_
    clear E
    intro fm w_ _ E
    refine⟨by (repeat with_reducible first|refine Stp.go ?_|refine StpE.go E ?_);rfl,?_⟩
    refine⟨by (repeat with_reducible first|refine Stp.go ?_|refine StpE.go E ?_);rfl,?_⟩
    repeat with_reducible first|refine Stp.go ?_|refine StpE.go E ?_
    refine StpA.go E ?_
    clear E
    intro tt w_ _ E
    repeat with_reducible first|refine Stp.go ?_|refine StpE.go E ?_|(refine StpW.go E ?_;clear E;intro w_ E)
    (replace E:=(((((E.bMp om).bMp gm).bMp fm).bPt tt).bPt tp))
    exact fin rfl _ _ _ _ _ _ E
  ·(repeat with_reducible first|refine Stp.go ?_|refine StpE.go E ?_)
   refine StpA.go E ?_
   clear E
   intro tp w_ _ E
   refine⟨by (repeat with_reducible first|refine Stp.go ?_|refine StpE.go E ?_);rfl,?_⟩
   refine⟨by (repeat with_reducible first|refine Stp.go ?_|refine StpE.go E ?_);rfl,?_⟩
   refine⟨?_,?_,trivial⟩
   ·refine MkM.pt (kt:=.int .i64) E ?_
    clear E
    intro fm w_ _ E
    refine⟨by (repeat with_reducible first|refine Stp.go ?_|refine StpE.go E ?_);rfl,?_⟩
    refine⟨by (repeat with_reducible first|refine Stp.go ?_|refine StpE.go E ?_);rfl,?_⟩
    refine MkM.pt (kt:=.str) E ?_
    clear E
    intro gm w_ _ E
    refine⟨by (repeat with_reducible first|refine Stp.go ?_|refine StpE.go E ?_);rfl,?_⟩
    refine⟨by (repeat with_reducible first|refine Stp.go ?_|refine StpE.go E ?_);rfl,?_⟩
    repeat with_reducible first|refine Stp.go ?_|refine StpE.go E ?_
    refine StpA.go E ?_
    clear E
    intro tt w_ _ E
    repeat with_reducible first|refine Stp.go ?_|refine StpE.go E ?_|(refine StpW.go E ?_;clear E;intro w_ E)
    (replace E:=(((((E.bMp om).bMp gm).bMp fm).bPt tt).bPt tp))
    exact fin rfl _ _ _ _ _ _ E
   ·refine MkM.pt (kt:=.str) E ?_
    clear E
    intro gm w_ _ E
    refine⟨by (repeat with_reducible first|refine Stp.go ?_|refine StpE.go E ?_);rfl,?_⟩
    refine⟨by (repeat with_reducible first|refine Stp.go ?_|refine StpE.go E ?_);rfl,?_⟩
    refine MkM.pt (kt:=.int .i64) E ?_
    clear E
    intro fm w_ _ E
    refine⟨by (repeat with_reducible first|refine Stp.go ?_|refine StpE.go E ?_);rfl,?_⟩
    refine⟨by (repeat with_reducible first|refine Stp.go ?_|refine StpE.go E ?_);rfl,?_⟩
    repeat with_reducible first|refine Stp.go ?_|refine StpE.go E ?_
    refine StpA.go E ?_
    clear E
    intro tt w_ _ E
    repeat with_reducible first|refine Stp.go ?_|refine StpE.go E ?_|(refine StpW.go E ?_;clear E;intro w_ E)
    (replace E:=(((((E.bMp om).bMp gm).bMp fm).bPt tt).bPt tp))
    exact fin rfl _ _ _ _ _ _ E
 ·(repeat with_reducible first|refine Stp.go ?_|refine StpE.go E ?_)
  refine StpA.go E ?_
  clear E
  intro tp w_ _ E
  refine⟨by (repeat with_reducible first|refine Stp.go ?_|refine StpE.go E ?_);rfl,?_⟩
  refine⟨by (repeat with_reducible first|refine Stp.go ?_|refine StpE.go E ?_);rfl,?_⟩
  refine⟨?_,?_,?_,trivial⟩
  ·refine MkM.pt (kt:=.int .i64) E ?_
   clear E
   intro fm w_ _ E
   refine⟨by (repeat with_reducible first|refine Stp.go ?_|refine StpE.go E ?_);rfl,?_⟩
   refine⟨by (repeat with_reducible first|refine Stp.go ?_|refine StpE.go E ?_);rfl,?_⟩
   refine⟨?_,?_,trivial⟩
   ·refine MkM.pt (kt:=.str) E ?_
    clear E
    intro gm w_ _ E
    refine⟨by (repeat with_reducible first|refine Stp.go ?_|refine StpE.go E ?_);rfl,?_⟩
    refine⟨by (repeat with_reducible first|refine Stp.go ?_|refine StpE.go E ?_);rfl,?_⟩
    refine MkM.pt (kt:=.int .i64) E ?_
    clear E
    intro om w_ _ E
    refine⟨by (repeat with_reducible first|refine Stp.go ?_|refine StpE.go E ?_);rfl,?_⟩
    refine⟨by (repeat with_reducible first|refine Stp.go ?_|refine StpE.go E ?_);rfl,?_⟩
    repeat with_reducible first|refine Stp.go ?_|refine StpE.go E ?_
    refine StpA.go E ?_
    clear E
    intro tt w_ _ E
    repeat with_reducible first|refine Stp.go ?_|refine StpE.go E ?_|(refine StpW.go E ?_;clear E;intro w_ E)
    (replace E:=(((((E.bMp om).bMp gm).bMp fm).bPt tt).bPt tp))
    exact fin rfl _ _ _ _ _ _ E
   ·refine MkM.pt (kt:=.int .i64) E ?_
    clear E
    intro om w_ _ E
    refine⟨by (repeat with_reducible first|refine Stp.go ?_|refine StpE.go E ?_);rfl,?_⟩
    refine⟨by (repeat with_reducible first|refine Stp.go ?_|refine StpE.go E ?_);rfl,?_⟩
    refine MkM.pt (kt:=.str) E ?_
    clear E
    intro gm w_ _ E
    refine⟨by (repeat with_reducible first|refine Stp.go ?_|refine StpE.go E ?_);rfl,?_⟩
    refine⟨by (repeat with_reducible first|refine Stp.go ?_|refine StpE.go E ?_);rfl,?_⟩
    repeat with_reducible first|refine Stp.go ?_|refine StpE.go E ?_
    refine StpA.go E ?_
    clear E
    intro tt w_ _ E
    repeat with_reducible first|refine Stp.go ?_|refine StpE.go E ?_|(refine StpW.go E ?_;clear E;intro w_ E)
    (replace E:=(((((E.bMp om).bMp gm).bMp fm).bPt tt).bPt tp))
    exact fin rfl _ _ _ _ _ _ E
  ·refine MkM.pt (kt:=.str) E ?_
   clear E
   intro gm w_ _ E
   refine⟨by (repeat with_reducible first|refine Stp.go ?_|refine StpE.go E ?_);rfl,?_⟩
   refine⟨by (repeat with_reducible first|refine Stp.go ?_|refine StpE.go E ?_);rfl,?_⟩
   refine⟨?_,?_,trivial⟩
   ·refine MkM.pt (kt:=.int .i64) E ?_
    clear E
    intro fm w_ _ E
    refine⟨by (repeat with_reducible first|refine Stp.go ?_|refine StpE.go E ?_);rfl,?_⟩
    refine⟨by (repeat with_reducible first|refine Stp.go ?_|refine StpE.go E ?_);rfl,?_⟩
    refine MkM.pt (kt:=.int .i64) E ?_
    clear E
    intro om w_ _ E
    refine⟨by (repeat with_reducible first|refine Stp.go ?_|refine StpE.go E ?_);rfl,?_⟩
    refine⟨by (repeat with_reducible first|refine Stp.go ?_|refine StpE.go E ?_);rfl,?_⟩
    repeat with_reducible first|refine Stp.go ?_|refine StpE.go E ?_
    refine StpA.go E ?_
    clear E
    intro tt w_ _ E
    repeat with_reducible first|refine Stp.go ?_|refine StpE.go E ?_|(refine StpW.go E ?_;clear E;intro w_ E)
    (replace E:=(((((E.bMp om).bMp gm).bMp fm).bPt tt).bPt tp))
    exact fin rfl _ _ _ _ _ _ E
   ·refine MkM.pt (kt:=.int .i64) E ?_
    clear E
    intro om w_ _ E
    refine⟨by (repeat with_reducible first|refine Stp.go ?_|refine StpE.go E ?_);rfl,?_⟩
    refine⟨by (repeat with_reducible first|refine Stp.go ?_|refine StpE.go E ?_);rfl,?_⟩
    refine MkM.pt (kt:=.int .i64) E ?_
    clear E
    intro fm w_ _ E
    refine⟨by (repeat with_reducible first|refine Stp.go ?_|refine StpE.go E ?_);rfl,?_⟩
    refine⟨by (repeat with_reducible first|refine Stp.go ?_|refine StpE.go E ?_);rfl,?_⟩
    repeat with_reducible first|refine Stp.go ?_|refine StpE.go E ?_
    refine StpA.go E ?_
    clear E
    intro tt w_ _ E
    repeat with_reducible first|refine Stp.go ?_|refine StpE.go E ?_|(refine StpW.go E ?_;clear E;intro w_ E)
    (replace E:=(((((E.bMp om).bMp gm).bMp fm).bPt tt).bPt tp))
    exact fin rfl _ _ _ _ _ _ E
  ·refine MkM.pt (kt:=.int .i64) E ?_
   clear E
   intro om w_ _ E
   refine⟨by (repeat with_reducible first|refine Stp.go ?_|refine StpE.go E ?_);rfl,?_⟩
   refine⟨by (repeat with_reducible first|refine Stp.go ?_|refine StpE.go E ?_);rfl,?_⟩
   refine⟨?_,?_,trivial⟩
   ·refine MkM.pt (kt:=.int .i64) E ?_
    clear E
    intro fm w_ _ E
    refine⟨by (repeat with_reducible first|refine Stp.go ?_|refine StpE.go E ?_);rfl,?_⟩
    refine⟨by (repeat with_reducible first|refine Stp.go ?_|refine StpE.go E ?_);rfl,?_⟩
    refine MkM.pt (kt:=.str) E ?_
    clear E
    intro gm w_ _ E
    refine⟨by (repeat with_reducible first|refine Stp.go ?_|refine StpE.go E ?_);rfl,?_⟩
    refine⟨by (repeat with_reducible first|refine Stp.go ?_|refine StpE.go E ?_);rfl,?_⟩
    repeat with_reducible first|refine Stp.go ?_|refine StpE.go E ?_
    refine StpA.go E ?_
    clear E
    intro tt w_ _ E
    repeat with_reducible first|refine Stp.go ?_|refine StpE.go E ?_|(refine StpW.go E ?_;clear E;intro w_ E)
    (replace E:=(((((E.bMp om).bMp gm).bMp fm).bPt tt).bPt tp))
    exact fin rfl _ _ _ _ _ _ E
   ·refine MkM.pt (kt:=.str) E ?_
    clear E
    intro gm w_ _ E
    refine⟨by (repeat with_reducible first|refine Stp.go ?_|refine StpE.go E ?_);rfl,?_⟩
    refine⟨by (repeat with_reducible first|refine Stp.go ?_|refine StpE.go E ?_);rfl,?_⟩
    refine MkM.pt (kt:=.int .i64) E ?_
    clear E
    intro fm w_ _ E
    refine⟨by (repeat with_reducible first|refine Stp.go ?_|refine StpE.go E ?_);rfl,?_⟩
    refine⟨by (repeat with_reducible first|refine Stp.go ?_|refine StpE.go E ?_);rfl,?_⟩
    repeat with_reducible first|refine Stp.go ?_|refine StpE.go E ?_
    refine StpA.go E ?_
    clear E
    intro tt w_ _ E
    repeat with_reducible first|refine Stp.go ?_|refine StpE.go E ?_|(refine StpW.go E ?_;clear E;intro w_ E)
    (replace E:=(((((E.bMp om).bMp gm).bMp fm).bPt tt).bPt tp))
    exact fin rfl _ _ _ _ _ _ E
set_option maxRecDepth 100000
set_option linter.unusedVariables false
set_option linter.unusedSimpArgs false
variable {w0 w:World} {F:Nat→Prop} {l:List As}
variable {D:List Row} {X:PT} {T:Tr} {β:Int→Nat}
theorem u_sl_File:PP.underlying Ty.t45=some (.slice Ty.t12):=by kernel_rfl
theorem n_File:sizeK PP Ty.t12=some 12:=by kernel_rfl
abbrev f0F:Fl:=⟨emp,d0,emp⟩
theorem z_File:zeroK PP Ty.t12=some f0F.V:=by kernel_rfl
theorem e_File:el3 PP Ty.t12=some (some f0F.V,12,144):=by kernel_rfl
theorem fl_scal(x:Fl):x.cs.all scalV=true:=rfl
theorem fcs_app(xs:List Fl)(x:Fl):fcs (xs++[x])=fcs xs++x.cs:=by simp[fcs]
theorem fcs_len(xs:List Fl):(fcs xs).length=xs.length*12:=by
 induction xs with
 |nil=>rfl
 |cons d r ih=>
  rw[fcs,List.flatMap_cons,List.length_append,List.length_cons]
  have:(List.flatMap Fl.cs r).length=r.length*12:=ih
  rw[this]
  show 12+r.length*12=(r.length+1)*12
  omega
theorem BdS.file{x:Fl}{k:Value→World→Prop}(E:Hs w0 F w l)(hk:∀v w',Hs w0 F w' (slA v Ty.t12 12 x.cs::l)→k v w'):Ef PP (Instr.buildSlice Ty.t45 1 #[(0,x.V)]) w k:=
 BdS.sl E u_sl_File n_File z_File (by omega) (by omega) (xs:=x.cs) (by kernel_rfl) rfl hk
theorem Files_ok(h:Tie D X T β)(hi:Inv T)(E:Hs w0 F w (trA X::Pool D::l)):
  Ca PP Fn.f37 #[ptr X.t] w λr w'=>Hs w0 F w' (slA r Ty.t12 12 (fcs T.files)::trA X::Pool D::l):=by
 refine S.f37.calls ?_
 unfold S.f37
 repeat with_reducible (refine StpA.go E ?_;clear E;intro b_ w_ hb_ E)
 (revert b_;intro t3 hbt3 E)
 (intro J3 hJ3)
 refine Eq.nt u_p_tree rfl ?_
 replace E:=Hs.openT (E.bIx 1)
 repeat with_reducible first|refine Stp.go ?_|refine StpE.go E ?_
 obtain⟨r0,hr0,hr1,hr2⟩:=h.root
 have hg0:T.get 0=some r0.f:=hi.get.2 ⟨h.mem.2 ⟨r0,hr0,rfl⟩,hr1⟩
 have hr0T:=h.mem.2 ⟨r0,hr0,rfl⟩
 rw[← hr2]
 refine(all_ok E).mono ?_
 clear E
 rintro r w_ ⟨a,rfl,E⟩
 obtain⟨rk,hrk,hrb⟩:=hi.rankB
 have hmap:=allP_map h hi 2000 hr0
 have hlen:=below_len hi 2000 hr0T
 rw[← hmap,List.length_map]at hlen
 have hfiles:T.files=(allP X T 2000 r0).map λk=>T.fl k.f:=by
  unfold Tr.files
  rw[hg0]
  simp only[]
  rw[← hmap,List.map_map]
  rfl
 rw[hfiles]
 have hmemB:∀m∈allP X T 2000 r0,m∈X.ps:=λm hm=>allP_mem h hi 2000 hr0 hm
 have hit:=all_iter (w0:=w0) (F:=F) h hi hrk hrb 2000 hr0 (by omega) a
 generalize allP X T 2000 r0=B at hlen hmemB hit hfiles ⊢
 replace E:=E.nilSl Ty.t12 12
 -- slA,pt a,tb,fm,gm,om,NT,DT,pt t3,Pool,l   (some order)
 (replace E:=((E.bPt t3).bSl (.slice none 0 0)))
 (replace E:=(((((E.bIx 7).bIx 3).bIx 9).bIx 4).bIx 4))
 refine RFo.hs (rest:=tb X::mp X.fm (.int .i64) X.fM::mp X.gm .str X.gM::mp X.om (.int .i64) X.oM::DT X.ds::l) rfl b_all1 hit (λpre ks=>∃v,ks=[slA v Ty.t12 12 (fcs (pre.map λk=>T.fl k.f)),pt t3 (oc [v] Ty.t45),Pool D]) (λ_ _ _=>False) (λ_ _=>False)
  (ks:=[slA (.slice none 0 0) Ty.t12 12 [],pt t3 (oc [.slice none 0 0] Ty.t45),Pool D]) E ⟨_,rfl⟩ ?_ ?_ (λ_ _ _ _ _ _ h _=>h.elim) (λ_ _ _ _ _ h _=>h.elim)
 ·clear E
  rintro r L0 D0 pre k w_ _ rest' Rn Re Rr hL0 hD0 hp ⟨v,rfl⟩ E hn2 - -
  simp only[List.cons_append,List.nil_append]at E
  have hkX:=hmemB k (List.mem_of_getElem? hp.2)
  have hpl:pre.length<B.length:=(List.getElem?_eq_some_iff.1 hp.2).1
  repeat with_reducible first|refine Stp.go ?_|refine StpE.go E ?_|(refine StpW.go E ?_;clear E;intro w_ E)
  refine Ld.nt E (by simp) hkX (v:=k.dv) rfl ?_
  skip
  have hdv:∀{w l},Hs w0 F w l→Pool D∈l→RdS w0 F l 1 k.f.data.size k.dv (bts k.f.data):=by
   intro w l E hm
   have:=(h.data k hkX).read E hm
   have hsz:(bts k.f.data).length=k.f.data.size:=by simp[bts]
   rwa [hsz]at this
  refine(hdv E (by simp)).cvb E u_sl_uint8 u_string u_uint8 ?_
  refine(path_ok h hi hkX (by simp) E).mono ?_
  clear E
  rintro r0' w_ ⟨rfl,E⟩
  refine⟨by (repeat with_reducible refine StpE.go E ?_);rfl,Ld.nt E (by simp) hkX (v:=k.dv) rfl rfl,(hdv E (by simp)).cvb E u_sl_uint8 u_string u_uint8 rfl,?_⟩
  replace E:=E.bIx 5
  refine(stat_nt h hkX (by simp) E).mono ?_
  clear E
  rintro r0' w_ ⟨rfl,E⟩
  refine⟨by (repeat with_reducible refine StpE.go E ?_);rfl,Ld.nt E (by simp) hkX (v:=k.dv) rfl rfl,(hdv E (by simp)).cvb E u_sl_uint8 u_string u_uint8 rfl,?_⟩
  repeat with_reducible refine StpE.go E ?_
  refine BdS.file (x:=T.fl k.f) E ?_
  clear E
  intro v2 w_ E
  skip
  refine⟨by (repeat with_reducible refine StpE.go E ?_);rfl,?_⟩
  have hsl:=Src.slice (P:=PP) (E.sat (slA v2 Ty.t12 12 (T.fl k.f).cs) (by simp)) (n:=1) rfl (by omega) (fl_scal _)
  have hdl:=fcs_len (pre.map λk=>T.fl k.f)
  rw[List.length_map]at hdl
  refine Ap.el E (i:=4) rfl u_sl_File ⟨_,u_sl_File,λ_ h=>by cases h⟩ e_File (by omega) hsl rfl (by rw[hdl];omega) (by rw[hdl];omega) ?_
  clear E
  intro s' w_ E
  (try simp only[List.set_cons_zero,List.set_cons_succ,List.cons_append,List.nil_append,Nat.zero_add,Nat.add_zero]at E)
  repeat with_reducible (refine StpW.go E ?_;clear E;intro w_ E)
  refine hn2 _ _ ⟨s',rfl⟩ ?_
  simp only[List.cons_append,List.nil_append]
  replace E:=E.tl
  rw[List.map_append,List.map_singleton,fcs_app]
  (replace E:=((((((E.bIx 0).bIx 5).bIx 5).bIx 5).bIx 5).bIx 5))
  exact E
 ·clear E
  rintro D0 w_ xs _ hD0 hxs ⟨v,rfl⟩ E
  rw[hxs]at E
  simp only[List.cons_append,List.nil_append]at E
  repeat with_reducible first|refine Stp.go ?_|refine StpE.go E ?_|(refine StpW.go E ?_;clear E;intro w_ E)|(apply hJ3;intro u_)
  show Hs w0 F w_ (slA v Ty.t12 12 (fcs T.files)::trA X::Pool D::l)
  rw[hfiles]
  (replace E:=((((((((E.bIx 2).bIx 1).bIx 9).bIx 5).bIx 9).bIx 9).bIx 9).bIx 9))
  replace E:=Hs.closeT X E
  (replace E:=(((E.bIx 2).bIx 1).bIx 2))
  exact E.drop (List.Sublist.cons_cons _ (List.Sublist.cons_cons _ (List.Sublist.cons_cons _ (List.sublist_append_right [_,_] l))))
set_option maxRecDepth 100000
set_option linter.unusedVariables false
set_option linter.unusedSimpArgs false
variable {w0 w:World} {F:Nat→Prop} {l:List As}
theorem fl_ceq{x y:Fl}:ceqL x.cs y.cs=true↔x=y:=by
 obtain⟨p,d,s⟩:=x
 obtain⟨q,e,t⟩:=y
 cases d;cases e
 simp only[Fl.cs,ceqL,ceq,Bool.and_eq_true,decide_eq_true_eq,Fl.mk.injEq,Dr.mk.injEq,and_true,and_assoc]
abbrev lkFile:List LK:=[.str,.int .i64,.int .i64,.int .i64,.int .i64,.int .i64,.int .i64,.str,.str,.str,.str,.str]
theorem lv_File:lv PP 20 Ty.t12=some lkFile:=by kernel_rfl
theorem st_File:isSt PP Ty.t12=true:=by kernel_rfl
theorem g_File:PP.eqGuardType PP.depth Ty.t12=false:=by kernel_rfl
theorem fcs_drop(ds:List Fl):∀i:Nat,(fcs ds).drop (i*12)=fcs (ds.drop i):=by
 induction ds with
 |nil=>intro i;simp
 |cons d r ih=>
  intro i
  cases i with
  |zero=>simp
  |succ i=>
   rw[fcs,List.flatMap_cons,show(i+1)*12=i*12+12 by omega]
   simp only[Fl.cs,List.cons_append,List.nil_append,List.drop_succ_cons]
   exact ih i
theorem eqFiles_ok{u v:Value}{xs ys:List Fl}(hn:xs.length≤1000000000)(E:Hs w0 F w l)(h1:RdS w0 F l 12 xs.length u (fcs xs))(h2:RdS w0 F l 12 ys.length v (fcs ys)):
  Ca PP Fn.f11 #[u,v] w λr w'=>∃b,r=.bool b∧(b=true↔xs=ys)∧Hs w0 F w' l:=by
 refine S.f11.calls ?_
 unfold S.f11
 refine h1.len ?_
 refine h2.len ?_
 refine Bi.neq (λh=>?_) λhlen=>?_
 ·(repeat with_reducible refine Stp.go ?_)
  exact⟨false,rfl,⟨(λh=>by cases h),λe=>absurd (by rw[e]) h⟩,E⟩
 have hlen:xs.length=ys.length:=by omega
 repeat with_reducible refine Stp.go ?_
 refine h1.len ?_
 refine⟨λl1 w1=>∃i:Nat,l1=[i64 i]∧i≤xs.length∧xs.take i=ys.take i∧Hs w0 F w1 l,λl1 _=>match l1 with|[.int _ i]=>xs.length-i.toNat|_=>0,⟨0,rfl,Nat.zero_le _,rfl,E⟩,?_⟩
 clear E
 rintro t u1 w1 ⟨i,e,hi,htk,E⟩
 cases e
 refine Bi.lss ?_ ?_<;>intro hlt<;>(repeat with_reducible first|refine Stp.go ?_|(refine StpW.go E ?_;clear E;intro w_ E))
 ·have hd:(fcs xs).drop (((i:Int)).toNat*12)=(xs[i]'(by omega)).cs++fcs (xs.drop (i+1)):=by
   rw[Int.toNat_natCast,fcs_drop,List.drop_eq_getElem_cons (by omega)];rfl
  have hd2:(fcs ys).drop (((i:Int)).toNat*12)=(ys[i]'(by omega)).cs++fcs (ys.drop (i+1)):=by
   rw[Int.toNat_natCast,fcs_drop,List.drop_eq_getElem_cons (by omega)];rfl
  refine h1.ix (by omega) (by omega) (by omega) ?_
  intro a ha
  rw[hd]at ha
  refine ha.lda E (m:=12) (ds:=(xs[i]'(by omega)).cs) rfl rfl (by omega) ?_
  refine h2.ix (by omega) (by omega) (by omega) ?_
  intro a2 ha2
  rw[hd2]at ha2
  refine ha2.lda E (m:=12) (ds:=(ys[i]'(by omega)).cs) rfl rfl (by omega) ?_
  refine EqS.n lv_File st_File g_File rfl rfl ?_
  have ex:xs[i]? =some (xs[i]'(by omega)):=List.getElem?_eq_getElem (by omega)
  have ey:ys[i]? =some (ys[i]'(by omega)):=List.getElem?_eq_getElem (by omega)
  cases hc:ceqL (xs[i]'(by omega)).cs (ys[i]'(by omega)).cs with
  |false=>
   simp only[Bool.not_false]
   repeat with_reducible refine Stp.go ?_
   refine⟨false,rfl,⟨(λh=>by cases h),λe=>?_⟩,E⟩
   subst e
   rw[fl_ceq.2 rfl]at hc
   cases hc
  |true=>
   simp only[Bool.not_true]
   repeat with_reducible refine Stp.go ?_
   refine Bi.add (by omega) ?_
   exact⟨⟨i+1,by simp,by omega,by rw[List.take_add_one,List.take_add_one,htk,ex,ey,fl_ceq.1 hc],E⟩,by simp only[];omega⟩
 ·refine⟨true,rfl,⟨λ_=>?_,λ_=>rfl⟩,E⟩
  rwa [List.take_of_length_le (by omega),List.take_of_length_le (by omega)]at htk
theorem fl_at{xs:List Fl}{i:Nat}{x:Fl}(h:xs[i]? =some x):((fcs xs).drop (i*12)).take 12=x.cs:=by
 obtain⟨hlt,rfl⟩:=List.getElem?_eq_some_iff.1 h
 rw[fcs_drop,List.drop_eq_getElem_cons hlt]
 exact List.take_left (l₁:=xs[i].cs) (l₂:=fcs (xs.drop (i+1)))
set_option maxRecDepth 100000
set_option linter.unusedVariables false
set_option linter.unusedSimpArgs false
variable {w0 w:World} {F:Nat→Prop} {l:List As}
theorem b_keysI1:hasBody PP Fn.f13=true:=by kernel_rfl
abbrev keysIF(a:Nat):Value:=.func (.func Fn.f13) #[] #[ptr a]
theorem keysI_iter {a m : Nat} {M : List (Int × HV)} :
  Iter PP w0 F (keysIF a) i64 (fun pre x=>pre.length < M.length∧x∈M.map (·.1)) (fun xs=>xs.Perm (M.map (·.1))) [pt a (oc [.map (some m)] Ty.t27),mp m (.int .i64) (encM i64 HV.V M)] [] [pt a (oc [.map (some m)] Ty.t27),mp m (.int .i64) (encM i64 HV.V M)]:=by
 intro K S_ y w ks rest hy h0 E
 refine CaV.mk b_keysI1 ?_
 refine S.f13.calls (a0:=y) (a1:=ptr a) ?_
 unfold S.f13
 have E1 : Hs w0 F w (pt a (oc [.map (some m)] Ty.t27)::mp m (.int .i64) (encM i64 HV.V M)::(ks++rest)):=E.perm (perm2 ks rest)
 clear E
 have E:=E1
 clear E1
 repeat with_reducible refine StpE.go E ?_
 refine Rg.mp E u_mopen ?_
 clear E
 intro it es clock w_ hit hes hw hok E
 have hlenM : es.size = M.length:=by
  have:=congrArg List.length hes
  rw [encM_length] at this
  unfold prs at this
  simpa using this
 obtain ⟨ky,hky⟩ : ∃ ky : MapEntry→Int,∀ e∈es.toList,e.key = i64 (ky e)∧ky e∈M.map (·.1):=by
  have : ∀ e : MapEntry,∃ k : Int,e∈es.toList→e.key = i64 k∧k∈M.map (·.1):=by
   intro e
   by_cases he : e∈es.toList
   ·have hm : (e.key,e.val)∈encM i64 HV.V M:=by rw [← hes]; exact List.mem_map.2 ⟨e,he,rfl⟩
    obtain ⟨p,hp,hpe⟩:=List.mem_map.1 hm
    exact ⟨p.1,fun _=>⟨(congrArg Prod.fst hpe).symm,List.mem_map.2 ⟨p,hp,rfl⟩⟩⟩
   ·exact ⟨0,fun h=>absurd h he⟩
  exact ⟨fun e=>Classical.choose (this e),fun e he=>Classical.choose_spec (this e) he⟩
 have hperm : ∀ ms,es.toList.Perm ms→(ms.map ky).Perm (M.map (·.1)):=by
  intro ms hp
  have h1 : (es.toList.map ky).Perm (ms.map ky):=hp.map ky
  refine h1.symm.trans ?_
  have h2 : es.toList.map ky = M.map (·.1):=by
   have h3 : (prs es.toList).map (·.1) = (encM i64 HV.V M).map (·.1):=by rw [hes]
   unfold prs encM at h3
   rw [List.map_map,List.map_map] at h3
   have h4 : es.toList.map (i64 ∘ ky) = (M.map (·.1)).map i64:=by
    rw [List.map_map]
    refine Eq.trans (List.map_congr_left fun e he=>?_) h3
    exact (hky e he).1.symm
   rw [← List.map_map] at h4
   exact map_cancel (fun x y h=>by injection h) h4
  rw [h2]
 refine ⟨fun l1 w1=>l1 = []∧∃ ms ks,Wlk es clock ms∧K (ms.map ky) ks∧Hs w0 F w1 (pt it (itO m clock ms)::pt m (mapO es clock)::pt a (oc [.map (some m)] Ty.t27)::(ks++rest)),fun _ w1=>itM it (es.size + 1) w1,⟨rfl,[],ks,hw,h0,E⟩,?_⟩
 clear E hw h0 ks
 rintro u w1 ⟨-,ms,ks,hw,hK,E⟩
 refine Nx.mp E hw ?_ ?_
 ·intro e w_ he hn2 hw2 E2
  have hmm : itM it (es.size + 1) w1 = es.size + 1 - ms.length:=itM_eq E
  have hle:=hw2.le
  simp only [List.length_append,List.length_cons,List.length_nil] at hle
  clear E
  have E:=E2
  clear E2
  repeat with_reducible refine Stp.go ?_
  refine Ent.mp E hw2 ?_
  obtain ⟨k1,k2⟩:=hky e he
  rw [k1]
  repeat with_reducible refine Stp.go ?_
  refine (hy (ms.map ky) (ky e) w_ ks (pt it (itO m clock (ms++[e]))::pt m (mapO es clock)::pt a (oc [.map (some m)] Ty.t27)::rest) ⟨by rw [List.length_map]; omega,k2⟩ hK (E.perm (perm3 ks rest))).mono ?_
  clear E
  have happ : ms.map ky++[ky e] = (ms++[e]).map ky:=by simp
  rw [happ]
  rintro r w_ (⟨rfl,ks',hk',E'⟩ | ⟨rfl,ks',hs',E'⟩)
  ·have E : Hs w0 F w_ (pt it (itO m clock (ms++[e]))::pt m (mapO es clock)::pt a (oc [.map (some m)] Ty.t27)::(ks'++rest)):=E'.perm (perm3 ks' rest).symm
   clear E'
   repeat with_reducible refine Stp.go ?_
   refine ⟨⟨rfl,ms++[e],ks',hw2,hk',E⟩,?_⟩
   show itM it (es.size + 1) w_ < itM it (es.size + 1) w1
   rw [hmm,itM_eq E]
   simp; omega
  ·have E : Hs w0 F w_ (pt it (itO m clock (ms++[e]))::pt m (mapO es clock)::pt a (oc [.map (some m)] Ty.t27)::(ks'++rest)):=E'.perm (perm3 ks' rest).symm
   clear E'
   repeat with_reducible refine Stp.go ?_
   refine .inr ⟨_,ks',hs',?_⟩
   replace E:=Hs.mapBack (m:=m) (kt:=(.int .i64)) (M:=encM i64 HV.V M) E hes hw2 hok
   replace E:=(E.bIx 1).tl
   (replace E:=((E.bIx 0).bIx 1))
   exact E.perm (perm2 ks' rest).symm
 ·intro hp
  repeat with_reducible refine Stp.go ?_
  refine .inl ⟨ms.map ky,ks,hperm ms hp,hK,?_⟩
  replace E:=Hs.mapBack (m:=m) (kt:=(.int .i64)) (M:=encM i64 HV.V M) E hes hw hok
  replace E:=(E.bIx 1).tl
  (replace E:=((E.bIx 0).bIx 1))
  exact E.perm (perm2 ks rest).symm
set_option maxRecDepth 100000
set_option linter.unusedVariables false
set_option linter.unusedSimpArgs false
variable {w0:World} {F:Nat→Prop} {l:List As}

theorem AppendSeqI_ok{w:World}{g:Value}{gf:FuncId}{first cap:Array Value}{Pf:List Int→Int→Prop}{Whole:List Int→Prop}{own vis own' rest:List As}(hg:g=.func (.func gf) first cap)(hb:hasBody PP gf=true)
  (hit:Iter PP w0 F g i64 Pf Whole own vis own')(hsz:∀pre x,Pf pre x→pre.length<1000000000)(E:Hs w0 F w (own++rest)):
  Ca PP Fn.f38 #[.slice none 0 0,g] w λv w'=>∃xs,Whole xs∧Hs w0 F w' (slA v Ty.int 1 (xs.map i64)::(own'++rest)):=by
 refine S.f38.calls ?_
 unfold S.f38
 repeat with_reducible (refine StpA.go E ?_;clear E;intro b_ w_ hb_ E)
 (revert b_;intro b hbb E)
 replace E:=(E.nilSl Ty.int 1)
 refine RFo.hs hg hb hit (λpre ks=>∃v,ks=[slA v Ty.int 1 (pre.map i64),pt b (oc [v] Ty.sl_int)]) (λ_ _ _=>False) (λ_ _=>False) (ks:=[slA (.slice none 0 0) Ty.int 1 [],pt b (oc [.slice none 0 0] Ty.sl_int)]) E ⟨_,rfl⟩ ?_ ?_ (λ_ _ _ _ _ _ h _=>h.elim) (λ_ _ _ _ _ h _=>h.elim)
 ·clear E
  rintro r L D pre x w_ _ rest' Rn Re Rr hL hD hp ⟨v,rfl⟩ E hn - -
  simp only[List.cons_append,List.nil_append]at E
  repeat with_reducible first|refine Stp.go ?_|refine StpE.go E ?_|(refine StpW.go E ?_;clear E;intro w_ E)
  refine BdS.one E u_sl_int e_int rfl ?_
  intro v2 w_ E
  have:=hsz _ _ hp
  refine Ap.one E (i:=3) rfl u_sl_int ⟨_,u_sl_int,λ_ h=>by cases h⟩ e_int (Src.one E (by (first|assumption|exact FPt.mem|exact FMp.mem|exact FSl.mem|(repeat(first|assumption|with_reducible exact List.mem_cons_self|refine List.mem_cons_of_mem _ ?_)))) rfl) rfl (by simp;omega) (by simp;omega) ?_
  intro s' w_ E
  (try simp only[List.set_cons_zero,List.set_cons_succ,List.cons_append,List.nil_append,Nat.zero_add,Nat.add_zero]at E)
  repeat with_reducible (refine StpW.go E ?_;clear E;intro w_ E)
  refine hn _ _ ⟨s',rfl⟩ ?_
  simp only[List.cons_append,List.nil_append]
  (replace E:=(E.bSl v2))
  (replace E:=(E.bIx 0).tl)
  (replace E:=((((E.bPt b).bSl s').bPt D).bPt L))
  have e1:(pre++[x]).map i64=pre.map i64++[i64 x]:=by simp
  rw[e1]
  exact E
 ·clear E
  rintro D w_ xs _ hD hw ⟨v,rfl⟩ E
  simp only[List.cons_append,List.nil_append]at E
  repeat with_reducible first|refine Stp.go ?_|refine StpE.go E ?_|(refine StpW.go E ?_;clear E;intro w_ E)
  refine⟨xs,hw,?_⟩
  (replace E:=(E.bPt b))
  (replace E:=(E.bIx 0).tl)
  exact E
theorem CollectI_ok{w:World}{g:Value}{gf:FuncId}{first cap:Array Value}{Pf:List Int→Int→Prop}{Whole:List Int→Prop}{own vis own' rest:List As}(hg:g=.func (.func gf) first cap)(hb:hasBody PP gf=true)
  (hit:Iter PP w0 F g i64 Pf Whole own vis own')(hsz:∀pre x,Pf pre x→pre.length<1000000000)(E:Hs w0 F w (own++rest)):
  Ca PP Fn.f59 #[g] w λv w'=>∃xs,Whole xs∧Hs w0 F w' (slA v Ty.int 1 (xs.map i64)::(own'++rest)):=by
 refine S.f59.calls ?_
 unfold S.f59
 exact AppendSeqI_ok hg hb hit hsz E
def sortI(xs:List Int):List Int:=xs.mergeSort λx y=>decide (x≤y)
theorem SortI_ok{w:World}{v:Value}{xs:List Int}(hn:xs.length<4611686018427387904)(E:Hs w0 F w (slA v Ty.int 1 (xs.map i64)::l)):
  Ca PP Fn.slices_Sort_sl_int_int #[v] w λr w'=>Hs w0 F w' (slA v Ty.int 1 ((sortI xs).map i64)::l):=by
 have hs:=E.sat _ List.mem_cons_self
 rcases SliceAt.holds (enc:=Value.int .i64) hs with⟨rfl,h0⟩|⟨b,off,cap,rfl,hH,hlt,hcap⟩
 ·subst h0
  refine Calls.mono (Tryz.slices_Sort_int_none none 0 w) ?_
  rintro e w' ⟨rfl,rfl⟩
  exact⟨_,rfl,by simpa[sortI] using E⟩
 ·refine Calls.mono (Tryz.slices_Sort_int b off cap xs w hH hlt hn) ?_
  rintro e w' ⟨rfl,n,os,rfl⟩
  refine⟨_,rfl,?_⟩
  have:=hs_sortRow E (enc:=Value.int .i64) (k:=n) (os:=os) (d:=(xs.mergeSort λx y=>decide (x≤y)).toArray) rfl (by simp)
  exact this
theorem SortedI_ok{w:World}{g:Value}{gf:FuncId}{first cap:Array Value}{Pf:List Int→Int→Prop}{Whole:List Int→Prop}{own vis own' rest:List As}(hg:g=.func (.func gf) first cap)(hb:hasBody PP gf=true)
  (hit:Iter PP w0 F g i64 Pf Whole own vis own')(hsz:∀pre x,Pf pre x→pre.length<1000000000)(hw:∀xs,Whole xs→xs.length<4611686018427387904)(E:Hs w0 F w (own++rest)):
  Ca PP Fn.f67 #[g] w λv w'=>∃xs,Whole xs∧Hs w0 F w' (slA v Ty.int 1 ((sortI xs).map i64)::(own'++rest)):=by
 refine S.f67.calls ?_
 unfold S.f67
 refine(CollectI_ok hg hb hit hsz E).mono ?_
 clear E
 rintro v w_ ⟨xs,hx,E⟩
 refine(SortI_ok (hw _ hx) E).mono ?_
 clear E
 intro r w_ E
 exact⟨xs,hx,E⟩
theorem sortI_of{xs ys:List Int}(h:xs.Perm ys)(hs:ys.Pairwise λa b=>a<b):sortI xs=ys:=by
 have so:(sortI xs).Pairwise (λa b=>a≤b):=by
  have:=List.pairwise_mergeSort (le:=λx y:Int=>decide (x≤y)) (λa b c h1 h2=>by simp at h1 h2 ⊢;omega) (λa b=>by simp;omega) xs
  exact this.imp λh=>by simpa using h
 exact List.Perm.eq_of_pairwise (le:=λa b=>a≤b) (λa b _ _ h1 h2=>by omega) so (hs.imp λh=>by omega) ((List.mergeSort_perm _ _).trans h)
set_option maxRecDepth 100000
set_option linter.unusedVariables false
set_option linter.unusedSimpArgs false
variable {w0:World} {F:Nat→Prop} {l:List As}
variable {w:World} {D:List Row} {X:PT} {T:Tr} {β:Int→Nat}
def Tr.handles (T : Tr) : List Int:=T.hs.map (·.1)
theorem KeysI_ok{m:Nat}(E:Hs w0 F w l):Ca PP Fn.f15 #[.map (some m)] w λr w'=>∃a,r=keysIF a∧Hs w0 F w' (pt a (oc [.map (some m)] Ty.t27)::l):=by
 refine S.f15.calls ?_
 unfold S.f15
 repeat with_reducible (refine StpA.go E ?_;clear E;intro b_ w_ hb_ E)
 exact⟨b_,rfl,E⟩
theorem Handles_ok(h:Tie D X T β)(hi:Inv T)(E:Hs w0 F w (trA X::l)):Ca PP Fn.f66 #[ptr X.t] w λr w'=>Hs w0 F w' (slA r Ty.int 1 (T.handles.map i64)::trA X::l):=by
 refine S.f66.calls ?_
 unfold S.f66
 refine Eq.ef u_p_tree rfl ?_
 replace E:=Hs.openT E
 repeat with_reducible first|refine Stp.go ?_|refine StpE.go E ?_
 refine(KeysI_ok E).mono ?_
 clear E
 rintro r w_ ⟨a,rfl,E⟩
 have hlen:=h.len.2
 have hfew:=hi.few.2
 (replace E:=((E.bIx 4).bIx 1))
 refine(SortedI_ok (rest:=tb X::mp X.fm (.int .i64) X.fM::mp X.gm .str X.gM::NT X.ps::DT X.ds::l) rfl b_keysI1 (keysI_iter (M:=X.ol)) (λpre x hp=>by have:=hp.1;omega) (λxs hx=>by have:=hx.length_eq;rw[List.length_map]at this;omega) E).mono ?_
 clear E
 rintro v w_ ⟨xs,hxs,E⟩
 simp only[List.cons_append,List.nil_append]at E
 have hs:T.handles.Pairwise λa b=>a<b:=by
  unfold Tr.handles
  rw[List.pairwise_map]
  exact hi.hsorted
 have e:sortI xs=T.handles:=sortI_of (hxs.trans h.keys) hs
 rw[e]at E
 skip
 (replace E:=(((((((E.bIx 0).bIx 7).bIx 7).bIx 4).bIx 7).bIx 7).bIx 7))
 replace E:=Hs.closeT X E
 replace E:=(E.bIx 1)
 exact E.drop (List.Sublist.cons_cons _ (List.Sublist.cons_cons _ (List.sublist_cons_self _ _)))
theorem Clock_ok(h:Tie D X T β)(E:Hs w0 F w (trA X::l)):Ca PP Fn.f41 #[ptr X.t] w λr w'=>r=i64 T.clock∧Hs w0 F w' (trA X::l):=by
 refine S.f41.calls ?_
 unfold S.f41
 refine Eq.ef u_p_tree rfl ?_
 replace E:=Hs.openT E
 repeat with_reducible first|refine Stp.go ?_|refine StpE.go E ?_
 exact⟨by rw[h.clock],Hs.closeT X E⟩
theorem Next_ok(h:Tie D X T β)(E:Hs w0 F w (trA X::l)):Ca PP Fn.f39 #[ptr X.t] w λr w'=>r=i64 T.next∧Hs w0 F w' (trA X::l):=by
 refine S.f39.calls ?_
 unfold S.f39
 refine Eq.ef u_p_tree rfl ?_
 replace E:=Hs.openT E
 repeat with_reducible first|refine Stp.go ?_|refine StpE.go E ?_
 exact⟨by rw[h.next],Hs.closeT X E⟩
set_option maxRecDepth 100000
set_option linter.unusedVariables false
set_option linter.unusedSimpArgs false
variable {w0 w:World} {F:Nat→Prop} {l:List As}
variable {D:List Row} {X:PT} {T:Tr} {β:Int→Nat}
abbrev Tr.bare(T:Tr):Tr:={T with hs:=[]}
theorem bare_inv(hi:Inv T):Inv T.bare:=
 ⟨hi.sorted,hi.root,hi.bound,hi.rootD,hi.up,hi.names,hi.good,hi.rank,hi.data,hi.form,List.Pairwise.nil,(λ_ h=>by cases h),(λ_ h=>by cases h),(λ_ h=>by cases h),⟨hi.few.1,Nat.zero_le _⟩,hi.clock,hi.rootN⟩
theorem bare_lim{N:Int}(h:Lim N T):Lim N T.bare:=⟨h.clock,h.next,h.vers⟩
theorem below_bare:∀(f:Nat) (n:Nd),belowN T.bare f n=belowN T f n
 |0,_=>rfl
 |f+1,n=>by
  unfold belowN
  rw[show T.bare.kidsS n.path=T.kidsS n.path from rfl]
  congr 1
  exact congrArg (λg=>(T.kidsS n.path).flatMap g) (funext λk=>below_bare f k)
theorem chain_bare:∀(f:Nat) (n:Nd),chainN T.bare f n=chainN T f n
 |0,_=>rfl
 |f+1,n=>by
  unfold chainN
  rw[show T.bare.parent n=T.parent n from rfl,chain_bare f (T.parent n)]
theorem files_bare:T.bare.files=T.files:=by
 unfold Tr.files
 rw[show T.bare.get 0=T.get 0 from rfl]
 cases T.get 0 with
 |none=>rfl
 |some r=>
  simp only[]
  rw[below_bare]
  refine List.map_congr_left λn _=>?_
  unfold Tr.fl Tr.pathS Tr.chain
  rw[chain_bare]
theorem equal_ok{X2:PT}{T2:Tr}{β2:Int→Nat}(h:Tie D X T β)(hi:Inv T)(h2:Tie D X2 T2 β2)(hi2:Inv T2)(E:Hs w0 F w (trA X::trA X2::Pool D::l)):
  Ca PP Fn.law28_equal #[ptr X.t,ptr X2.t] w λr w'=>∃b,r=.bool b∧(b=true↔T.files=T2.files∧T.clock=T2.clock)∧∃k:List As,Hs w0 F w' (trA X::trA X2::Pool D::(k++l)):=by
 refine S.law28_equal.calls ?_
 unfold S.law28_equal
 have hl1:=files_len hi
 have hl2:=files_len hi2
 (intro J1 hJ1)
 skip
 (replace E:=((E.bIx 2).bIx 1))
 refine(Files_ok h hi E).mono ?_
 clear E
 intro fv w_ E
 (replace E:=((((E.bIx 1).bIx 1).bIx 2).bIx 3))
 refine(Files_ok h2 hi2 E).mono ?_
 clear E
 intro fv2 w_ E
 have r1:=RdS.sl (T:=Ty.t12) (sz:=12) (v:=fv) (xs:=fcs T.files) (by simp) (by omega) E
 have r2:=RdS.sl (T:=Ty.t12) (sz:=12) (v:=fv2) (xs:=fcs T2.files) (by simp) (by omega) E
 rw[fcs_len,Nat.mul_div_cancel _ (by omega)]at r1 r2
 refine(eqFiles_ok (by omega) E r1 r2).mono ?_
 clear E
 rintro r w_ ⟨b,rfl,hb,E⟩
 cases b with
 |false=>
  repeat with_reducible first|refine Stp.go ?_|(apply hJ1;intro u_)
  refine⟨false,rfl,⟨(λh=>by cases h),λh=>absurd (hb.2 h.1) (by simp)⟩,[slA fv2 Ty.t12 12 (fcs T2.files),slA fv Ty.t12 12 (fcs T.files)],?_⟩
  (replace E:=(((((E.bIx 3).bIx 1).bIx 3).bIx 3).bIx 4))
  exact E
 |true=>
  repeat with_reducible refine Stp.go ?_
  (replace E:=(E.bIx 4))
  refine(Clock_ok h E).mono ?_
  clear E
  rintro r w_ ⟨rfl,E⟩
  repeat with_reducible refine Stp.go ?_
  (replace E:=(E.bIx 2))
  refine(Clock_ok h2 E).mono ?_
  clear E
  rintro r w_ ⟨rfl,E⟩
  repeat with_reducible refine Stp.go ?_
  (replace E:=(((((E.bIx 4).bIx 3).bIx 4).bIx 3).bIx 4))
  refine Bi.eql ?_ ?_<;>intro hc<;>(repeat with_reducible first|refine Stp.go ?_|(apply hJ1;intro u_))
  ·exact⟨true,rfl,⟨λ_=>⟨hb.1 rfl,hc⟩,λ_=>rfl⟩,[slA fv2 Ty.t12 12 (fcs T2.files),slA fv Ty.t12 12 (fcs T.files)],E⟩
  ·exact⟨false,rfl,⟨(λh=>by cases h),λh=>absurd h.2 hc⟩,[slA fv2 Ty.t12 12 (fcs T2.files),slA fv Ty.t12 12 (fcs T.files)],E⟩
set_option maxRecDepth 100000
set_option linter.unusedVariables false
set_option linter.unusedSimpArgs false

def gsz(g:ByteArray×List ByteArray):Nat:=g.1.size+g.2.length+(g.2.map λ(s:ByteArray)=>s.size).sum
def ssz(owner:BA)(gs:Gs):Nat:=owner.size+gs.length+(gs.map gsz).sum
theorem usr_bulk{H:Type}{g:BA×List BA}{d:DataW H}(h:UsrD g d):gsz g+1≤Rows.uptoBulk d:=by
 obtain⟨du,rfl,h⟩:=h
 have e:g.1.data.toList.length=g.1.size:=by rw[Array.length_toList];rfl
 rcases h with⟨rfl,h2⟩|⟨sp,rfl⟩
 ·simp only[Rows.uptoBulk,Rows.uptoBulkAll,gsz,h2,List.map_nil,List.sum_nil,List.length_nil];omega
 ·have key:∀us:List ByteArray,us.length+(us.map λ(s:ByteArray)=>s.size).sum≤Rows.uptoBulkAll (us.map λ(s:ByteArray)=>DataW.lit (H:=H) (.string s.data.toList)):=by
   intro us
   induction us with
   |nil=>simp
   |cons u r ih=>
    have eu:u.data.toList.length=u.size:=by rw[Array.length_toList];rfl
    simp only[List.map_cons,Rows.uptoBulkAll,Rows.uptoBulk,List.sum_cons,List.length_cons]
    omega
  have:=key g.2
  simp only[Rows.uptoBulk,Rows.uptoBulkAll,gsz];omega
theorem grp_bulk{H:Type}{gs:Gs}{d:DataW H}(h:GrpD gs d):gs.length+(gs.map gsz).sum≤Rows.uptoBulk d:=by
 rcases h with⟨rfl,rfl⟩|⟨elems,spare,rfl,hl,hu⟩
 ·simp
 ·have key:∀(gs:Gs) (elems:List (DataW H)),elems.length=gs.length→(∀(i:Nat) d g,elems[i]? =some d→gs[i]? =some g→UsrD g d)→gs.length+(gs.map gsz).sum≤Rows.uptoBulkAll elems:=by
   intro gs
   induction gs with
   |nil=>intro elems _ _;simp
   |cons g r ih=>
    intro elems hl hu
    cases elems with
    |nil=>simp at hl
    |cons x es=>
     have h1:=usr_bulk (hu 0 x g rfl rfl)
     have h2:=ih es (by simpa using hl) λi d g hd hg=>hu (i+1) d g (by simpa using hd) (by simpa using hg)
     simp only[Rows.uptoBulkAll,List.length_cons,List.map_cons,List.sum_cons]
     omega
  have:=key gs elems hl hu
  simp only[Rows.uptoBulk];omega
theorem set_bulk{H:Type}{owner:BA}{gs:Gs}{dg:DataW H}(h:GrpD gs dg){rest:List (DataW H)}(hk:Rows.uptoSmall H (.agg [.lit (.string owner.data.toList),dg]::rest)=true):ssz owner gs≤1048576:=by
 have h1:Rows.uptoBulkAll (DataW.agg [.lit (.string owner.data.toList),dg]::rest)≤1048576:=of_decide_eq_true hk
 have h2:=grp_bulk h
 have e:owner.data.toList.length=owner.size:=by rw[Array.length_toList];rfl
 simp only[Rows.uptoBulk,Rows.uptoBulkAll]at h1
 unfold ssz
 omega
theorem gin_of{W:World}{v:Value}{gv:List (BA×Value)}{gs:Gs}{l:List As}(h1:RdlA W v 2 gs.length (gv.flatMap λg=>[.string g.1,g.2]))(h2:gv.length=gs.length)
  (h3:∀(i:Nat) a b,gv[i]? =some a→gs[i]? =some b→a.1=b.1∧Rdl W a.2 (b.2.map Value.string)):GIn W Emp l v gv gs:=
 ⟨RdS.oldA h1 λb h=>h,h2,λi a b ha hb=>by
  obtain⟨e,h⟩:=h3 i a b ha hb
  refine⟨e,?_⟩
  have:=RdS.old (l:=l) h λb (h:Emp b)=>h
  rwa [List.length_map]at this⟩
theorem sum_le{α:Type}{f:α→Nat}:∀{L:List α} {x:α},x∈L→f x≤(L.map f).sum
 |y::r,x,h=>by
  rw[List.map_cons,List.sum_cons]
  rcases List.mem_cons.1 h with rfl|h
  ·omega
  ·have:=sum_le (f:=f) h;omega
theorem sum_take{α:Type}{f:α→Nat}(L:List α)(i:Nat):((L.take i).map f).sum≤(L.map f).sum:=by
 have:((L.take i).map f).sum+((L.drop i).map f).sum=(L.map f).sum:=by rw[← List.sum_append,← List.map_append,List.take_append_drop]
 omega
theorem ssz_parts{owner:BA}{gs:Gs}{n:Nat}(h:ssz owner gs≤n):owner.size≤n∧gs.length≤n∧∀g∈gs,g.1.size≤n∧g.2.length≤n∧∀u∈g.2,u.size≤n:=by
 unfold ssz at h
 refine⟨by omega,by omega,λg hg=>?_⟩
 have:=sum_le (f:=gsz) hg
 have e:gsz g=g.1.size+g.2.length+(g.2.map λ(s:ByteArray)=>s.size).sum:=rfl
 refine⟨by omega,by omega,λu hu=>?_⟩
 have:=sum_le (f:=λs:ByteArray=>s.size) hu
 omega
theorem gwords_mem{gs:Gs}{s:BA}(h:s∈gwords gs):∃g∈gs,s=g.1∨s∈g.2:=by
 unfold gwords at h
 obtain⟨g,hg,h⟩:=List.mem_flatMap.1 h
 exact⟨g,hg,List.mem_cons.1 h⟩
theorem ssz_words{owner:BA}{gs:Gs}{n:Nat}(h:ssz owner gs≤n):∀s∈[owner]++gwords gs,s.size≤n:=by
 obtain⟨h1,h2,h3⟩:=ssz_parts h
 intro s hs
 rcases List.mem_append.1 hs with hs|hs
 ·rw[List.mem_singleton.1 hs];exact h1
 ·obtain⟨g,hg,hs⟩:=gwords_mem hs
  rcases hs with rfl|hs
  ·exact(h3 g hg).1
  ·exact(h3 g hg).2.2 s hs
set_option maxRecDepth 100000
set_option linter.unusedVariables false
set_option linter.unusedSimpArgs false
variable {w0 w:World} {F:Nat→Prop} {l:List As}
variable {D:List Row} {X:PT} {T:Tr} {β:Int→Nat}
abbrev acs(xs:List Ac):List Value:=(xs.map Ac.C).flatten
theorem acs_of:∀{rows:List (List Value)},(∀r∈rows,fitWL lkAct r)→∃xs:List Ac,rows=xs.map Ac.C∧∀x∈xs,x.Ok
 |[],_=>⟨[],rfl,λ_ h=>by cases h⟩
 |r::rs,h=>by
  obtain⟨x,rfl,hx⟩:=act_of (h r List.mem_cons_self)
  obtain⟨xs,rfl,hxs⟩:=acs_of (λy hy=>h y (List.mem_cons_of_mem _ hy))
  exact⟨x::xs,rfl,λy hy=>by
   rcases List.mem_cons.1 hy with rfl|hy
   ·exact hx
   ·exact hxs y hy⟩
theorem acs_at{xs:List Ac}:∀{i:Nat} {x:Ac},xs[i]? =some x→((acs xs).drop (i*20)).take 20=x.C:=by
 induction xs with
 |nil=>intro i x h;simp at h
 |cons y r ih=>
  intro i x h
  have e:acs (y::r)=y.C++acs r:=by simp[acs]
  cases i with
  |zero=>
   obtain rfl:y=x:=by simpa using h
   rw[e,Nat.zero_mul,List.drop_zero]
   exact List.take_left (l₁:=y.C) (l₂:=acs r)
  |succ i=>
   rw[e,show(i+1)*20=y.C.length+i*20 by show _=20+i*20;omega,← List.drop_drop,List.drop_left]
   exact ih (by simpa using h)
theorem ac_scal(x:Ac):x.C.all scalV=true:=rfl

def Tr.acts(T:Tr)(xs:List Ac):Tr:=xs.foldl (λT x=>(T.act x).1) T
theorem acts_snoc(T:Tr)(xs:List Ac)(x:Ac):T.acts (xs++[x])=((T.acts xs).act x).1:=by simp[Tr.acts]
theorem acts_inv:∀(xs:List Ac) {T:Tr},Inv T→Inv (T.acts xs)
 |[],_,h=>h
 |x::r,T,h=>acts_inv r (act_inv h x)
theorem acts_lim:∀(xs:List Ac) {T:Tr} {N:Int},0≤N→Lim N T→Lim (N+3*xs.length) (T.acts xs)
 |[],T,N,_,h=>h.mono (by simp)
 |x::r,T,N,h0,h=>by
  have:=acts_lim r (N:=N+3) (by omega) (act_lim h0 h x)
  rw[List.length_cons]
  have e:N+3*((r.length+1:Nat):Int)=N+3+3*(r.length:Int):=by omega
  rw[e]
  exact this
theorem Few_ok{v:Value}{xs:List Ac}(hxl:xs.length≤9223372036854775807)(hr:RdS w0 F l 20 xs.length v (acs xs))(E:Hs w0 F w l):Ca PP Fn.law28_Few #[v] w λr w'=>∃b,r=.bool b∧(b=true→xs.length≤40)∧Hs w0 F w' l:=by
 refine S.law28_Few.calls ?_
 unfold S.law28_Few
 refine hr.len ?_
 refine⟨λl1 w1=>∃i:Nat,l1=[i64 i]∧i≤xs.length∧Hs w0 F w1 l,λl1 _=>match l1 with|[.int _ i]=>xs.length-i.toNat|_=>0,⟨0,rfl,Nat.zero_le _,E⟩,?_⟩
 clear E
 rintro t u w_ ⟨i,h4,hi,E⟩
 cases h4
 refine Bi.lss ?_ ?_<;>intro hlt<;>(repeat with_reducible refine Stp.go ?_)
 ·have hx:xs[i]? =some xs[i]:=List.getElem?_eq_getElem (by omega)
  generalize xs[i]=x at hx
  have hat:=acs_at hx
  refine hr.ix (by omega) (by omega) (by omega) ?_
  intro a ha
  rw[Int.toNat_natCast]at ha
  refine ha.lda E hat rfl (by omega) ?_
  repeat with_reducible (refine StpA.go E ?_;clear E;intro b_ w_ hb_ E)
  (revert b_;intro q hbq E)
  refine StA.all (vs:=x.C) E rfl rfl (ac_scal x) ?_
  clear E
  intro w_ E
  (intro J13 hJ13)
  have fin:∀b w_,Hs w0 F w_ (pt q (oc x.C Ty.law28_Act)::l)→J13 [.bool b] w_:=by
   intro b w_ E
   repeat with_reducible (apply hJ13;intro u_)
   cases b
   ·(repeat with_reducible refine Stp.go ?_)
    refine Bi.add (by omega) ?_
    refine⟨⟨i+1,by simp,by omega,E.tl⟩,?_⟩
    simp only[];omega
   ·(repeat with_reducible refine Stp.go ?_)
    exact⟨_,rfl,λh=>(by cases h),E.tl⟩
  clear hJ13
  repeat with_reducible first|refine Stp.go ?_|refine StpE.go E ?_
  refine Bi.addW ?_;intro s1;(repeat with_reducible first|refine Stp.go ?_|refine StpE.go E ?_)
  refine Bi.addW ?_;intro s2;(repeat with_reducible first|refine Stp.go ?_|refine StpE.go E ?_)
  refine Bi.addW ?_;intro s3;(repeat with_reducible first|refine Stp.go ?_|refine StpE.go E ?_)
  refine Bi.addW ?_;intro s4;(repeat with_reducible first|refine Stp.go ?_|refine StpE.go E ?_)
  refine Bi.addW ?_;intro s5;(repeat with_reducible first|refine Stp.go ?_|refine StpE.go E ?_)
  refine Bi.addW ?_;intro s6;skip
  refine Bi.gtr ?_ ?_<;>intro g1<;>(repeat with_reducible first|refine Stp.go ?_|refine StpE.go E ?_)
  ·exact fin _ _ E
  refine Bi.gtr ?_ ?_<;>intro g2<;>(repeat with_reducible first|refine Stp.go ?_|refine StpE.go E ?_)
  ·refine Bi.leq ?_ ?_<;>intro g3<;>(repeat with_reducible first|refine Stp.go ?_|refine StpE.go E ?_)
   ·exact fin _ _ E
   ·refine Bi.gtr ?_ ?_<;>intro g4<;>(repeat with_reducible first|refine Stp.go ?_|refine StpE.go E ?_)
    ·refine Bi.leq ?_ ?_<;>intro g5<;>(repeat with_reducible refine Stp.go ?_)
     ·exact fin _ _ E
     ·exact fin _ _ E
    ·exact fin _ _ E
  ·refine Bi.gtr ?_ ?_<;>intro g4<;>(repeat with_reducible first|refine Stp.go ?_|refine StpE.go E ?_)
   ·refine Bi.leq ?_ ?_<;>intro g5<;>(repeat with_reducible refine Stp.go ?_)
    ·exact fin _ _ E
    ·exact fin _ _ E
   ·exact fin _ _ E
 ·refine hr.len ?_
  refine Bi.leq ?_ ?_<;>intro h1
  ·exact⟨_,rfl,λ_=>by omega,E⟩
  ·exact⟨_,rfl,λh=>(by cases h),E⟩

theorem played_ok{v gV:Value}{gv:List (BA×Value)}{gs:Gs}{owner:BA}{xs:List Ac}(hg:GIn w0 F l gV gv gs)(hgl:gs.length≤100000)(hul:∀g∈gs,g.2.length≤100000)(hsz:∀s∈[owner]++gwords gs,s.size≤9223372036854775807)
  (hok:∀x∈xs,x.Ok)(hxl:xs.length≤40)(hr:RdS w0 F l 20 xs.length v (acs xs))(E:Hs w0 F w (Pool D::l)):
  Ca PP Fn.law28_played #[.agg #[str owner,gV],v] w λr w'=>
   (checkG gs [owner]≠0∧r=np∧Hs w0 F w' (Pool D::l))∨
   (checkG gs [owner]=0∧∃D' X β,r=ptr X.t∧(∀x∈D,x∈D')∧Tie D' X ((newT owner gs).acts xs) β∧Inv ((newT owner gs).acts xs)∧Lim 121 ((newT owner gs).acts xs)∧Hs w0 F w' (trA X::Pool D'::l)):=by
 refine S.law28_played.calls ?_
 unfold S.law28_played
 refine StpA.go E ?_
 clear E
 intro q w_ hq E
 repeat with_reducible first|refine Stp.go ?_|refine StpE.go E ?_
 (replace E:=((E.bIx 0).bIx 1))
 refine(New_ok (owner:=owner) (hg.weaken (l':=pt q (oc [str owner,gV] Ty.t34)::l) λ_ E=>E.tl) hgl hul hsz E).mono ?_
 clear E
 rintro r w_ (⟨hc,rfl,E⟩|⟨hc,D1,X,β,rfl,hD1,h,hi,E⟩)
 ·(repeat with_reducible refine Stp.go ?_)
  refine Bi.neq ?_ ?_<;>intro h1<;>(repeat with_reducible refine Stp.go ?_)
  ·exact .inl ⟨hc,rfl,(E.bIx 1).tl⟩
  ·exact absurd h1 hc
 repeat first|(with_reducible first|refine Stp.go ?_)|((with_reducible refine Bi.dec false ?_ ?_);focus exact rfl)
 refine hr.len ?_
 have hl0:=newT_lim owner gs
 refine⟨λl1 w1=>∃(i:Nat) (D':List Row) (X':PT) (β':Int→Nat),l1=[i64 i]∧i≤xs.length∧(∀x∈D,x∈D')∧X'.t=X.t∧Tie D' X' ((newT owner gs).acts (xs.take i)) β'∧Hs w0 F w1 (trA X'::Pool D'::l),
  λl1 _=>match l1 with|[.int _ i]=>xs.length-i.toNat|_=>0,⟨0,D1,X,β,rfl,Nat.zero_le _,hD1,rfl,h,?_⟩,?_⟩
 ·exact(E.bIx 2).tl
 clear E
 rintro t u w_ ⟨i,D',X',β',h4,hle,hD,ht,hT,E⟩
 cases h4
 have hi':=acts_inv (xs.take i) hi
 have hl':=acts_lim (xs.take i) (by omega) hl0
 have htl:(xs.take i).length≤40:=by rw[List.length_take];omega
 have hl2:Lim 121 ((newT owner gs).acts (xs.take i)):=hl'.mono (by omega)
 refine Bi.lss ?_ ?_<;>intro hlt<;>(repeat with_reducible refine Stp.go ?_)
 ·have hx:xs[i]? =some xs[i]:=List.getElem?_eq_getElem (by omega)
  have hxo:xs[i].Ok:=hok _ (List.getElem_mem _)
  generalize xs[i]=x at hx hxo
  have hat:=acs_at hx
  refine hr.ix (by omega) (by omega) (by omega) ?_
  intro a ha
  rw[Int.toNat_natCast]at ha
  refine ha.lda E.tl.tl hat rfl (by omega) ?_
  repeat with_reducible (refine StpA.go E ?_;clear E;intro b_ w_ hb_ E)
  (revert b_;intro b hbb E)
  refine StA.all (vs:=x.C) E rfl rfl (ac_scal x) ?_
  clear E
  intro w_ E
  repeat with_reducible refine StpE.go E ?_
  (replace E:=((E.bIx 2).bIx 2))
  rw[← ht]
  refine(Do_ok (x:=x) hT hi' (by omega) hl2 hxo E).mono ?_
  clear E
  rintro r w_ ⟨dv,rfl,D2,X2,β2,hD2,ht2,hT2,E⟩
  skip
  refine Bi.add (by omega) ?_
  have e:(newT owner gs).acts (xs.take (i+1))=(((newT owner gs).acts (xs.take i)).act x).1:=by
   rw[List.take_add_one,hx]
   exact acts_snoc _ _ _
  refine⟨⟨i+1,D2,X2,β2,by simp,by omega,λy hy=>hD2 y (hD y hy),by rw[ht2,ht],by rw[e];exact hT2,?_⟩,?_⟩
  ·exact((((E.bIx 2).tl).bIx 2).tl)
  ·simp only[];omega
 ·have e:xs.take i=xs:=List.take_of_length_le (by omega)
  rw[e]at hT hi' hl2
  exact .inr ⟨hc,D',X',β',by rw[ht],hD,hT,hi',hl2,E⟩
set_option maxRecDepth 100000
set_option linter.unusedVariables false
set_option linter.unusedSimpArgs false
variable {w0 w:World} {F:Nat→Prop} {l:List As}
theorem small_ok{gV:Value}{gv:List (BA×Value)}{gs:Gs}{owner:BA}(hg:GIn w0 F l gV gv gs)(hb:ssz owner gs≤1048576)(E:Hs w0 F w l):
  Ca PP Fn.law28_small #[.agg #[str owner,gV]] w λr w'=>r=.bool (decide (ssz owner gs≤2000))∧Hs w0 F w' l:=by
 refine S.law28_small.calls ?_
 unfold S.law28_small
 have hb':=hb
 unfold ssz at hb'
 refine StpA.go E ?_
 clear E
 intro q w_ hq E
 repeat with_reducible first|refine Stp.go ?_|refine StpE.go E ?_
 refine hg.rd.len ?_
 refine Bi.add (by omega) ?_
 repeat with_reducible first|refine Stp.go ?_|refine StpE.go E ?_
 refine hg.rd.len ?_
 refine⟨λl1 w1=>∃(i:Nat) (n:Int),l1=[i64 n,i64 i]∧i≤gs.length∧n=((owner.size+gs.length+((gs.take i).map gsz).sum:Nat):Int)∧Hs w0 F w1 (pt q (oc [str owner,gV] Ty.t34)::l),λl1 _=>match l1 with|[_,.int _ i]=>gs.length-i.toNat|_=>0,
  ⟨0,_,rfl,Nat.zero_le _,by simp,E⟩,?_⟩
 clear E
 rintro t3 t18 u w1 ⟨i,n,h1,hi,hn,E⟩
 cases h1
 have htk:=sum_take (f:=gsz) gs i
 refine Bi.lss ?_ ?_<;>intro hlt<;>(repeat with_reducible refine Stp.go ?_)
 ·have hx:gs[i]? =some gs[i]:=List.getElem?_eq_getElem (by omega)
  have hy:gv[i]? =some (gv[i]'(by rw[hg.len];omega)):=List.getElem?_eq_getElem (by rw[hg.len];omega)
  obtain⟨nm,uv,hgi⟩:∃nm uv,gv[i]'(by rw[hg.len];omega)=(nm,uv):=⟨_,_,rfl⟩
  obtain⟨us,hus⟩:∃us,gs[i]=(nm,us):=⟨gs[i].2,by have:=(hg.one i _ _ hy hx).1;rw[hgi]at this;exact Prod.ext this.symm rfl⟩
  have hu:=(hg.one i _ _ hy hx).2
  rw[hgi,hus]at hu
  rw[hus]at hx
  simp only[]at hu
  have tk:gs.take (i+1)=gs.take i++[(nm,us)]:=by rw[List.take_add_one,hx];rfl
  have hs1:((gs.take (i+1)).map gsz).sum=((gs.take i).map gsz).sum+(nm.size+us.length+(us.map λ(s:ByteArray)=>s.size).sum):=by rw[tk];simp[gsz]
  have htk2:=sum_take (f:=gsz) gs (i+1)
  refine(hg.rd.cons (pt q (oc [str owner,gV] Ty.t34))).ix (by omega) (by omega) (by omega) ?_
  intro a ha
  rw[Int.toNat_natCast,flat_drop,List.drop_eq_getElem_cons (by rw[hg.len];omega),hgi,List.flatMap_cons]at ha
  have hus2:=hu
  obtain⟨p,c,huv,-⟩:=hus2
  refine ha.lda E (m:=2) (ds:=[str nm,uv]) rfl rfl (by omega) ?_
  clear ha
  subst huv
  repeat with_reducible first|refine Stp.go ?_|refine StpE.go E ?_|(refine StpW.go E ?_;clear E;intro w_ E)|(refine StpA.go E ?_;clear E;intro b_ w_ hb_ E)
  (revert b_;intro g hbg E)
  skip
  refine hu.len ?_
  refine Bi.add (by omega) ?_
  refine Bi.add (by omega) ?_
  repeat with_reducible first|refine Stp.go ?_|refine StpE.go E ?_
  refine hu.len ?_
  refine⟨λl1 w1=>∃(j:Nat) (m:Int),l1=[i64 m,i64 j]∧j≤us.length∧m=((owner.size+gs.length+((gs.take i).map gsz).sum+nm.size+us.length+((us.take j).map λ(s:ByteArray)=>s.size).sum:Nat):Int)∧Hs w0 F w1 (pt g (oc [str nm,.slice p us.length c] Ty.tree_Group)::pt q (oc [str owner,gV] Ty.t34)::l),λl1 _=>match l1 with|[_,.int _ i]=>us.length-i.toNat|_=>0,
   ⟨0,_,rfl,Nat.zero_le _,by rw[hn,List.take_zero,List.map_nil,List.sum_nil];omega,E⟩,?_⟩
  clear E
  rintro t3' t34 u' w2 ⟨j,m,h1,hj,hm,E⟩
  cases h1
  have htj:=sum_take (f:=λs:ByteArray=>s.size) us j
  refine Bi.lss ?_ ?_<;>intro hlt2<;>(repeat with_reducible refine Stp.go ?_)
  ·have hxu:us[j]? =some us[j]:=List.getElem?_eq_getElem (by omega)
   have hs2:((us.take (j+1)).map λ(s:ByteArray)=>s.size).sum=((us.take j).map λ(s:ByteArray)=>s.size).sum+us[j].size:=by
    rw[List.take_add_one,hxu,List.map_append,List.sum_append]
    simp
   have htj2:=sum_take (f:=λs:ByteArray=>s.size) us (j+1)
   refine((hu.cons (pt q (oc [str owner,gV] Ty.t34))).cons (pt g (oc [str nm,.slice p us.length c] Ty.tree_Group))).ix (by omega) (by omega) (by omega) ?_
   intro a ha
   refine ha.ld E (x:=str us[j]) (by rw[Int.toNat_natCast,Nat.mul_one,List.getElem?_drop,Nat.add_zero,List.getElem?_map,hxu];rfl) ?_
   repeat with_reducible refine Stp.go ?_
   refine Bi.add (by omega) ?_
   refine Bi.add (by omega) ?_
   exact⟨⟨j+1,m+us[j].size,by simp,by omega,by omega,E⟩,by simp only[];omega⟩
  ·rw[show us.take j=us from List.take_of_length_le (by omega)]at hm
   refine Bi.add (by omega) ?_
   exact⟨⟨i+1,m,by simp,by omega,by omega,E.tl⟩,by simp only[];omega⟩
 ·rw[show gs.take i=gs from List.take_of_length_le (by omega)]at hn
  have e:n=(ssz owner gs:Int):=hn
  refine Bi.leq ?_ ?_<;>intro h2
  ·exact⟨by rw[decide_eq_true (by omega)],E.tl⟩
  ·exact⟨by rw[decide_eq_false (by omega)],E.tl⟩
set_option maxRecDepth 100000
set_option linter.unusedVariables false
set_option linter.unusedSimpArgs false
variable {T:Tr}
theorem good_parts{s:BA}(h:goodName s=true):s≠emp∧s≠dot1∧s≠dot2∧noS s:=by
 unfold goodName at h
 simp only[Bool.and_eq_true,List.all_eq_true,bne_iff_ne,ne_eq,decide_eq_true_eq]at h
 obtain⟨h1,⟨⟨h2,h3⟩,h4⟩,h5⟩:=h
 refine⟨λe=>h2 (by rw[e];rfl),λe=>by rw[e]at h4;exact absurd h4 (by decide),λe=>by rw[e]at h5;exact absurd h5 (by decide),λhc=>?_⟩
 have:=h1 47 hc
 exact absurd this (by decide)
theorem good_okl{l:List BA}(h:∀x∈l,goodName x=true)(a:Bool):Okl a l:=
 ⟨λx hx=>by obtain⟨h1,h2,-,h4⟩:=good_parts (h x hx);exact⟨h1,h2,h4⟩,λi hd=>absurd rfl (good_parts (h _ (List.mem_of_getElem? hd))).2.2.1⟩
theorem elems_path{l:List BA}(h:∀x∈l,goodName x=true):elemsC (sep++joinS l)=l:=by
 unfold elemsC
 rw[absP_sep,splitS_sep]
 show List.foldl (stepC true) (stepC true [] emp) (splitS (joinS l))=l
 have:stepC true [] emp=[]:=by unfold stepC;rw[if_pos (.inl rfl)]
 rw[this]
 exact elems_join (good_okl h true)
theorem find_chain(hi:Inv T){r n:Nd}(hr:T.get 0=some r)(hn:n∈T.ns)(rest:List BA):T.findN r (T.chain n++rest)=T.findN n rest:=by
 obtain⟨rk,hrk,hb⟩:=hi.rankB
 have key:∀(k:Nat) (n:Nd),n∈T.ns→rk n.path≤k→∀rest,T.findN r (T.chain n++rest)=T.findN n rest:=by
  intro k
  induction k with
  |zero=>
   intro n hn hk rest
   by_cases h0:n.path=0
   ·have:n=r:=hi.inj hn (hi.get.1 hr).1 (by rw[h0,(hi.get.1 hr).2])
    rw[chain_root h0,this];rfl
   ·have:=hrk n hn h0;omega
  |succ k ih=>
   intro n hn hk rest
   by_cases h0:n.path=0
   ·have:n=r:=hi.inj hn (hi.get.1 hr).1 (by rw[h0,(hi.get.1 hr).2])
    rw[chain_root h0,this];rfl
   ·have:=hrk n hn h0
    obtain⟨p1,p2,p3⟩:=parent_mem hi hn h0
    rw[chain_step hi hn h0,List.append_assoc,ih _ p1 (by rw[p2];omega)]
    show T.findN (T.parent n) (n.name::rest)=_
    rw[Tr.findN,if_neg (by rw[p3];simp),(kid_some hi).2 ⟨hn,h0,p2.symm,rfl⟩]
 exact key _ n hn (Nat.le_refl _) rest
theorem chain_inj(hi:Inv T){a b:Nd}(ha:a∈T.ns)(hb:b∈T.ns)(h:T.chain a=T.chain b):a=b:=by
 obtain⟨r,hr⟩:=root_get hi
 have h1:=find_chain hi hr ha []
 have h2:=find_chain hi hr hb []
 rw[h,h2]at h1
 have h3:b.qid=a.qid:=congrArg Prod.fst h1
 have h4:b.path=a.path:=congrArg Qd.path h3
 exact hi.inj ha hb h4.symm
theorem pathS_inj(hi:Inv T){a b:Nd}(ha:a∈T.ns)(hb:b∈T.ns)(h:T.pathS a=T.pathS b):a=b:=by
 have h1:=elems_path (chain_good hi ha)
 have h2:=elems_path (chain_good hi hb)
 have h:sep++joinS (T.chain a)=sep++joinS (T.chain b):=h
 rw[h,h2]at h1
 exact chain_inj hi ha hb h1.symm
theorem joinN_snoc:∀{l:List (List UInt8)} {x:List UInt8},l≠[]→Lib.join (l++[x]) [47]=Lib.join l [47]++47::x
 |[],_,h=>absurd rfl h
 |[y],x,_=>by simp[Lib.join,List.intercalate]
 |y::z::r,x,_=>by
  have ih:=joinN_snoc (l:=z::r) (x:=x) (by simp)
  unfold Lib.join at ih ⊢
  simp only[List.intercalate,List.cons_append,List.intersperse_cons_cons,List.flatten_cons]at ih ⊢
  simp only[List.append_assoc]
  rw[ih]
  simp

theorem pathS_step(hi:Inv T){n:Nd}(hn:n∈T.ns)(h0:n.path≠0):
  ((T.parent n).path=0∧(T.pathS n).data.toList=47::n.name.data.toList)∨((T.pathS (T.parent n)).data.toList≠[]∧(T.pathS n).data.toList=(T.pathS (T.parent n)).data.toList++47::n.name.data.toList):=by
 obtain⟨p1,p2,p3⟩:=parent_mem hi hn h0
 have e:T.pathS n=sep++joinS (T.chain (T.parent n)++[n.name]):=by unfold Tr.pathS;rw[chain_step hi hn h0]
 by_cases hc:T.chain (T.parent n)=[]
 ·left
  refine⟨?_,?_⟩
  ·obtain⟨r,hr⟩:=root_get hi
   have:T.parent n=r:=chain_inj hi p1 (hi.get.1 hr).1 (by rw[hc,chain_root (hi.get.1 hr).2])
   rw[this];exact(hi.get.1 hr).2
  ·rw[e,hc,List.nil_append,joinS_one]
   simp
 ·right
  refine⟨?_,?_⟩
  ·unfold Tr.pathS;simp
  ·have e1:∀L:List BA,(sep++joinS L).data.toList=47::Lib.join (L.map λx=>x.data.toList) [47]:=by
    intro L
    unfold joinS
    simp
   have e2:T.pathS (T.parent n)=sep++joinS (T.chain (T.parent n)):=rfl
   have:(T.chain (T.parent n)).map (λx:BA=>x.data.toList)≠[]:=by simpa using hc
   rw[e,e1,e2,e1,List.map_append,List.map_singleton,joinN_snoc this]
   rfl
theorem pathS_root{n:Nd}(h0:n.path=0):T.pathS n=sep:=by
 unfold Tr.pathS
 rw[chain_root h0];rfl
theorem pathS_nil(n:Nd):T.pathS n≠emp:=by
 intro h
 have:=congrArg (λx:BA=>x.data.toList) h
 unfold Tr.pathS at this
 simp[emp]at this

theorem flat_at{α β:Type}{g:α→List β}:∀{L:List α} {a b:List β} {m:β},L.flatMap g=a++m::b→∃k∈L,∃c d,g k=c++m::d∧∀x∈c,x∈a
 |[],a,b,m,h=>by simp at h
 |k::L,a,b,m,h=>by
  rw[List.flatMap_cons]at h
  rcases List.append_eq_append_iff.1 h with⟨a',h1,h2⟩|⟨c',h1,h2⟩
  ·obtain⟨k',hk,c,d,h3,h4⟩:=flat_at (g:=g) h2
   exact⟨k',List.mem_cons_of_mem _ hk,c,d,h3,λx hx=>by rw[h1];exact List.mem_append_right _ (h4 x hx)⟩
  ·cases c' with
   |nil=>
    rw[List.nil_append]at h2
    obtain⟨k',hk,c,d,h3,h4⟩:=flat_at (g:=g) (L:=L) (a:=[]) (m:=m) (b:=b) h2.symm
    exact⟨k',List.mem_cons_of_mem _ hk,c,d,h3,λx hx=>absurd (h4 x hx) List.not_mem_nil⟩
   |cons y c'=>
    simp only[List.cons_append,List.cons.injEq]at h2
    obtain⟨rfl,h2⟩:=h2
    exact⟨k,List.mem_cons_self,a,c',h1,λx hx=>hx⟩
theorem below_up(hi:Inv T):∀(f:Nat) {n:Nd},n∈T.ns→∀{a b:List Nd} {m:Nd},belowN T f n=a++m::b→m=n∨T.parent m∈a
 |0,_,_,a,b,m,h=>by
  unfold belowN at h
  simp at h
 |f+1,n,hn,a,b,m,h=>by
  unfold belowN at h
  cases a with
  |nil=>
   simp only[List.nil_append,List.cons.injEq]at h
   exact .inl h.1.symm
  |cons y a=>
   simp only[List.cons_append,List.cons.injEq]at h
   obtain⟨rfl,h⟩:=h
   right
   obtain⟨k,hk,c,d,h1,h2⟩:=flat_at h
   obtain⟨k1,k2,k3⟩:=kidsS_mem hi hk
   rcases below_up hi f k1 h1 with rfl|h3
   ·have:T.parent m=n:=by
     obtain⟨p1,p2,_⟩:=parent_mem hi k1 k2
     exact hi.inj p1 hn (by rw[p2,k3])
    rw[this];exact List.mem_cons_self
   ·exact List.mem_cons_of_mem _ (h2 _ h3)

def Tr.order(T:Tr):List Nd:=match T.get 0 with
 |none=>[]
 |some r=>belowN T 2000 r
theorem files_order:T.files=T.order.map T.fl:=by
 unfold Tr.files Tr.order
 cases T.get 0<;>rfl
theorem order_first(hi:Inv T):∃r L,T.order=r::L∧r∈T.ns∧r.path=0:=by
 obtain⟨r,hr⟩:=root_get hi
 unfold Tr.order
 rw[hr]
 exact⟨r,_,rfl,(hi.get.1 hr).1,(hi.get.1 hr).2⟩
theorem order_mem(hi:Inv T){n:Nd}(hn:n∈T.order):n∈T.ns:=by
 obtain⟨r,hr⟩:=root_get hi
 unfold Tr.order at hn
 rw[hr]at hn
 exact below_mem hi _ (hi.get.1 hr).1 hn
theorem order_nodup(hi:Inv T):T.order.Nodup:=by
 obtain⟨r,hr⟩:=root_get hi
 unfold Tr.order
 rw[hr]
 exact below_nodup hi _ (hi.get.1 hr).1

theorem order_at(hi:Inv T){i:Nat}{n:Nd}(h:T.order[i]? =some n):
  (∀x∈T.order.take i,T.pathS x≠T.pathS n∧x.path≠n.path)∧(i≠0→n.path≠0∧T.parent n∈T.order.take i)∧(i=0→n.path=0):=by
 have hlt:=(List.getElem?_eq_some_iff.1 h).1
 have hsp:T.order=T.order.take i++n::T.order.drop (i+1):=by
  have:n=T.order[i]:=((List.getElem?_eq_some_iff.1 h).2).symm
  rw[this,← List.drop_eq_getElem_cons hlt,List.take_append_drop]
 have hnd:=order_nodup hi
 have hn:n∈T.ns:=order_mem hi (List.mem_of_getElem? h)
 have hne:∀x∈T.order.take i,x≠n:=by
  intro x hx e
  rw[hsp,List.nodup_append]at hnd
  exact hnd.2.2 x hx n List.mem_cons_self e
 have h0:i=0→n.path=0:=by
  rintro rfl
  obtain⟨r,L,h1,h2,h3⟩:=order_first hi
  rw[h1]at h
  obtain rfl:r=n:=by simpa using h
  exact h3
 refine⟨λx hx=>?_,λhi0=>?_,h0⟩
 ·have hxT:x∈T.ns:=order_mem hi (List.mem_of_mem_take hx)
  exact⟨λe=>hne x hx (pathS_inj hi hxT hn e),λe=>hne x hx (hi.inj hxT hn e)⟩
 ·obtain⟨r,L,h1,h2,h3⟩:=order_first hi
  have hnr:n≠r:=by
   intro e
   refine hne r ?_ e.symm
   rw[h1]
   cases i with
   |zero=>exact absurd rfl hi0
   |succ i=>rw[List.take_succ_cons];exact List.mem_cons_self
  refine⟨λe=>hnr (hi.inj hn h2 (by rw[e,h3])),?_⟩
  obtain⟨r',hr'⟩:=root_get hi
  have e:T.order=belowN T 2000 r':=by unfold Tr.order;rw[hr']
  have hrr:r'=r:=hi.inj (hi.get.1 hr').1 h2 (by rw[(hi.get.1 hr').2,h3])
  rw[e]at hsp
  rcases below_up hi _ (hi.get.1 hr').1 hsp with h4|h4
  ·exact absurd (h4.trans hrr) hnr
  ·rw[← e]at h4;exact h4

set_option maxRecDepth 100000
set_option linter.unusedVariables false
set_option linter.unusedSimpArgs false
variable {S T:Tr}

def keyS(p:BA):BA:=if p=sep then sep else p++sep
theorem ba_appl(a b:BA):(a++b).data.toList=a.data.toList++b.data.toList:=by simp
theorem ba_cancel{a b c:BA}(h:a++c=b++c):a=b:=by
 refine ba_ext ?_
 have h1:=congrArg (λx:BA=>x.data.toList) h
 simp only[ba_appl]at h1
 exact List.append_cancel_right h1
theorem sep_list:sep.data.toList=[47]:=rfl
theorem pathS_key(hi:Inv T){n:Nd}(hn:n∈T.ns)(h0:n.path≠0):T.pathS n=keyS (T.pathS (T.parent n))++n.name:=by
 obtain⟨p1,p2,p3⟩:=parent_mem hi hn h0
 have e:T.pathS n=sep++joinS (T.chain (T.parent n)++[n.name]):=by unfold Tr.pathS;rw[chain_step hi hn h0]
 by_cases hc:T.chain (T.parent n)=[]
 ·have e2:T.pathS (T.parent n)=sep:=by unfold Tr.pathS;rw[hc];rfl
  rw[e,hc,List.nil_append,joinS_one,e2,keyS,if_pos rfl]
 ·have hne:T.pathS (T.parent n)≠sep:=by
   intro h2
   obtain⟨r,hr⟩:=root_get hi
   have hr0:=(hi.get.1 hr).2
   have:T.parent n=r:=pathS_inj hi p1 (hi.get.1 hr).1 (by rw[h2,pathS_root hr0])
   exact hc (by rw[this,chain_root hr0])
  rw[keyS,if_neg hne]
  refine ba_ext ?_
  have e1:∀L:List BA,(sep++joinS L).data.toList=47::Lib.join (L.map λx=>x.data.toList) [47]:=by
   intro L
   unfold joinS
   simp
  have e2:T.pathS (T.parent n)=sep++joinS (T.chain (T.parent n)):=rfl
  have h3:(T.chain (T.parent n)).map (λx:BA=>x.data.toList)≠[]:=by simpa using hc
  rw[e,e1,ba_appl,ba_appl,e2,e1,List.map_append,List.map_singleton,joinN_snoc h3,sep_list]
  simp
theorem keyS_inj{p q:BA}(hp:p≠emp)(hq:q≠emp)(h:keyS p=keyS q):p=q:=by
 have hz:∀{x:BA},x≠emp→sep≠x++sep:=by
  intro x hx e
  have h1:=congrArg (λy:BA=>y.data.toList) e
  simp only[ba_appl,sep_list]at h1
  have h2:=congrArg List.length h1
  simp only[List.length_append,List.length_singleton]at h2
  have h3:x.data.toList=[]:=List.length_eq_zero_iff.1 (by omega)
  exact hx (ba_ext h3)
 unfold keyS at h
 split at h
 ·rename_i h1
  split at h
  ·rename_i h2;rw[h1,h2]
  ·exact absurd h (hz hq)
 ·split at h
  ·exact absurd h.symm (hz hp)
  ·exact ba_cancel h
theorem fl_parts{S T:Tr}{a b:Nd}(h:S.fl a=T.fl b):S.pathS a=T.pathS b∧a.path=b.path∧a.vers=b.vers∧a.mode=b.mode∧a.time=b.time∧a.name=b.name∧a.owner=b.owner∧a.group=b.group∧a.last=b.last∧a.data=b.data:=by
 unfold Tr.fl Nd.stat at h
 simp only[Fl.mk.injEq,Dr.mk.injEq]at h
 obtain⟨h1,⟨h2,h3,h4,h5,h6,h7,h8,h9,h10,h11⟩,h12⟩:=h
 exact⟨h1,h4,h3,h5,h6,h8,h9,h10,h11,h12⟩
theorem nd_ext{a b:Nd}(h:a.path=b.path∧a.vers=b.vers∧a.mode=b.mode∧a.time=b.time∧a.name=b.name∧a.owner=b.owner∧a.group=b.group∧a.last=b.last∧a.data=b.data)(hu:a.up=b.up):a=b:=by
 cases a;cases b
 simp only at h hu
 obtain⟨rfl,rfl,rfl,rfl,rfl,rfl,rfl,rfl,rfl⟩:=h
 subst hu
 rfl
theorem order_has(hi:Inv T){n:Nd}(hn:n∈T.ns):n∈T.order:=by
 obtain⟨r,hr⟩:=root_get hi
 unfold Tr.order
 rw[hr]
 exact below_all hi hr hn
theorem order_perm(hi:Inv T):T.order.Perm T.ns:=
 (List.perm_ext_iff_of_nodup (order_nodup hi) (hi.sorted.imp λh e=>by rw[e]at h;omega)).2 λa=>⟨order_mem hi,order_has hi⟩

theorem up_eq(hs:Inv S)(ht:Inv T)(hP:∀p∈S.ns,∃q∈T.ns,S.pathS p=T.pathS q∧p.path=q.path){a b:Nd}(ha:a∈S.ns)(hb:b∈T.ns)(h1:S.pathS a=T.pathS b)(h2:a.path=b.path)(h3:a.name=b.name):a.up=b.up:=by
 by_cases h0:a.path=0
 ·rw[(hs.rootD a ha h0).2,(ht.rootD b hb (by rw[← h2,h0])).2]
 ·have h0b:b.path≠0:=by rw[← h2];exact h0
  obtain⟨p1,p2,p3⟩:=parent_mem hs ha h0
  obtain⟨q1,q2,q3⟩:=parent_mem ht hb h0b
  rw[pathS_key hs ha h0,pathS_key ht hb h0b,h3]at h1
  have h4:=keyS_inj (pathS_nil _) (pathS_nil _) (ba_cancel h1)
  obtain⟨q,hq,h5,h6⟩:=hP _ p1
  have h7:q=T.parent b:=pathS_inj ht hq q1 (by rw[← h5,h4])
  rw[← p2,← q2,h6,h7]
theorem order_eq(hs:Inv S)(ht:Inv T)(h:S.files=T.files):S.order=T.order:=by
 rw[files_order,files_order]at h
 have hl:S.order.length=T.order.length:=by have:=congrArg List.length h;simpa using this
 have at_:∀(i:Nat) a,S.order[i]? =some a→∃b,T.order[i]? =some b∧S.fl a=T.fl b:=by
  intro i a ha
  have h1:=congrArg (λl=>l[i]?) h
  simp only[List.getElem?_map,ha,Option.map_some]at h1
  cases hb:T.order[i]? with
  |none=>rw[hb]at h1;cases h1
  |some b=>rw[hb]at h1;exact⟨b,rfl,Option.some.inj h1⟩
 have hP:∀p∈S.ns,∃q∈T.ns,S.pathS p=T.pathS q∧p.path=q.path:=by
  intro p hp
  obtain⟨i,hx⟩:=List.getElem?_of_mem (order_has hs hp)
  obtain⟨q,hq,e⟩:=at_ i p hx
  have:=fl_parts e
  exact⟨q,order_mem ht (List.mem_of_getElem? hq),this.1,this.2.1⟩
 refine List.ext_getElem? λi=>?_
 cases ha:S.order[i]? with
 |none=>rw[List.getElem?_eq_none_iff]at ha;exact(List.getElem?_eq_none (by omega)).symm
 |some a=>
  obtain⟨b,hb,e⟩:=at_ i a ha
  rw[hb]
  obtain⟨e1,e2⟩:=fl_parts e
  congr 1
  exact nd_ext e2 (up_eq hs ht hP (order_mem hs (List.mem_of_getElem? ha)) (order_mem ht (List.mem_of_getElem? hb)) e1 e2.1 e2.2.2.2.2.1)
theorem ns_of_perm(hs:Inv S)(ht:Inv T)(h:S.ns.Perm T.ns):S.ns=T.ns:=
 List.Perm.eq_of_pairwise (le:=λa b:Nd=>a.path<b.path) (λa b _ _ h1 h2=>absurd h1 (by omega)) hs.sorted ht.sorted h

theorem files_inj(hs:Inv S)(ht:Inv T)(h:S.files=T.files):S.ns=T.ns:=
 ns_of_perm hs ht ((order_perm hs).symm.trans (by rw[order_eq hs ht h];exact order_perm ht))

theorem sub_parent(hs:Inv S)(ht:Inv T)(hsub:∀n∈S.ns,n∈T.ns){n:Nd}(hn:n∈S.ns)(h0:n.path≠0):S.parent n=T.parent n:=by
 obtain⟨p1,p2,p3⟩:=parent_mem hs hn h0
 obtain⟨q1,q2,q3⟩:=parent_mem ht (hsub n hn) h0
 exact ht.inj (hsub _ p1) q1 (by rw[p2,q2])
theorem sub_chain(hs:Inv S)(ht:Inv T)(hsub:∀n∈S.ns,n∈T.ns):∀(f:Nat) {n:Nd},n∈S.ns→chainN S f n=chainN T f n
 |0,_,_=>rfl
 |f+1,n,hn=>by
  unfold chainN
  by_cases h0:n.path=0
  ·rw[if_pos h0,if_pos h0]
  ·rw[if_neg h0,if_neg h0]
   rw[← sub_parent hs ht hsub hn h0,sub_chain hs ht hsub f (parent_mem hs hn h0).1]
theorem sub_path(hs:Inv S)(ht:Inv T)(hsub:∀n∈S.ns,n∈T.ns){n:Nd}(hn:n∈S.ns):S.pathS n=T.pathS n:=by
 unfold Tr.pathS Tr.chain
 rw[sub_chain hs ht hsub 2000 hn]
set_option maxRecDepth 100000
set_option linter.unusedVariables false
set_option linter.unusedSimpArgs false
variable {S T:Tr}

def insN:List Nd→Nd→List Nd
 |[],n=>[n]
 |x::r,n=>if n.path<x.path then n::x::r else x::insN r n
theorem insN_perm:∀(ns:List Nd) (n:Nd),(insN ns n).Perm (n::ns)
 |[],n=>List.Perm.refl _
 |x::r,n=>by
  unfold insN
  split
  ·exact List.Perm.refl _
  ·exact((insN_perm r n).cons x).trans (List.Perm.swap _ _ _)
theorem insN_sorted:∀(ns:List Nd) (n:Nd),ns.Pairwise (λa b=>a.path<b.path)→(∀x∈ns,x.path≠n.path)→(insN ns n).Pairwise λa b=>a.path<b.path
 |[],n,_,_=>List.pairwise_singleton _ _
 |x::r,n,hs,hx=>by
  rw[List.pairwise_cons]at hs
  unfold insN
  split
  ·rename_i h
   refine List.pairwise_cons.2 ⟨λy hy=>?_,List.pairwise_cons.2 hs⟩
   rcases List.mem_cons.1 hy with rfl|hy
   ·exact h
   ·have:=hs.1 y hy;omega
  ·rename_i h
   refine List.pairwise_cons.2 ⟨λy hy=>?_,insN_sorted r n hs.2 λy hy=>hx y (List.mem_cons_of_mem _ hy)⟩
   rcases List.mem_cons.1 ((insN_perm r n).mem_iff.1 hy)with rfl|hy
   ·have:=hx x List.mem_cons_self;omega
   ·exact hs.1 y hy
abbrev Tr.ins(T:Tr)(n:Nd):Tr:={T with ns:=insN T.ns n}
theorem ins_mem{n m:Nd}:m∈(T.ins n).ns↔m=n∨m∈T.ns:=by
 show m∈insN T.ns n↔_
 rw[(insN_perm T.ns n).mem_iff,List.mem_cons]
theorem Inv.ins(hi:Inv T){n u:Nd}(hp:0≤n.path∧n.path<T.next)(hnew:T.get n.path=none)(hu:u∈T.ns)(hup:n.up=u.path)(hud:u.dir=true)(hk:T.kid u.path n.name=none)(hg:goodName n.name=true)
  (hd:(n.dir=true→n.data=emp)∧n.data.size≤1048576)(hf:goodName n.owner=true∧goodName n.group=true∧rightM n.mode=true∧0≤n.vers∧0≤n.time)(hl:T.ns.length<1024)(hh:T.hs=[]):Inv (T.ins n):=by
 have mm:∀{P:Nd→Prop},(∀p∈T.ns,P p)→P n→∀p∈(T.ins n).ns,P p:=by
  intro P h1 h2 p hp
  rcases ins_mem.1 hp with rfl|hp
  ·exact h2
  ·exact h1 p hp
 have hnp:=get_none.1 hnew
 obtain⟨r0,hr0,hr1⟩:=hi.root
 have h0:n.path≠0:=by rw[← hr1];exact λe=>hnp r0 hr0 e.symm
 have hname:∀m∈T.ns,m.path≠0→m.up=n.up→m.name≠n.name:=by
  intro m hm hm0 h1 h2
  have:=(kid_some hi).2 ⟨hm,hm0,rfl,rfl⟩
  rw[h1,h2,hup,hk]at this
  cases this
 have mem:∀{m},m∈T.ns→m∈(T.ins n).ns:=λh=>ins_mem.2 (.inr h)
 refine⟨insN_sorted _ _ hi.sorted hnp,⟨r0,mem hr0,hr1⟩,mm hi.bound hp,mm hi.rootD (λh=>absurd h h0),mm ?_ ?_,mm ?_ ?_,mm hi.good (λ_=>hg),?_,mm hi.data hd,
  mm hi.form hf,?_,?_,?_,?_,⟨?_,?_⟩,hi.clock,mm hi.rootN λh=>absurd h h0⟩
 ·intro m hm h
  obtain⟨v,hv,h1⟩:=hi.up m hm h
  exact⟨v,mem hv,h1⟩
 ·intro _
  exact⟨u,mem hu,hup.symm,hud⟩
 ·intro a ha
  refine mm (hi.names a ha) λh1 h2 h3 h4=>?_
  exact absurd h4 (hname a ha h1 h3)
 ·refine mm (λb hb h1 h2 h3 h4=>?_) λ_ _ _ _=>rfl
  exact absurd h4.symm (hname b hb h2 h3.symm)
 ·obtain⟨rk,hrk⟩:=hi.rank
  refine⟨λp=>if p=n.path then rk n.up+1 else rk p,mm (λm hm h=>?_) λ_=>?_⟩
  ·obtain⟨v,hv,h2,_⟩:=hi.up m hm h
   have h3:=hnp v hv
   show(if m.up=n.path then rk n.up+1 else rk m.up)<(if m.path=n.path then rk n.up+1 else rk m.path)
   rw[if_neg (by rw[← h2];exact h3),if_neg (hnp m hm)]
   exact hrk m hm h
  ·show(if n.up=n.path then rk n.up+1 else rk n.up)<(if n.path=n.path then rk n.up+1 else rk n.path)
   rw[if_pos rfl,if_neg (by rw[hup];exact hnp u hu)]
   omega
 ·show T.hs.Pairwise _
  rw[hh];exact List.Pairwise.nil
 ·intro x hx
  have hx:x∈T.hs:=hx
  rw[hh]at hx;cases hx
 ·intro x hx
  have hx:x∈T.hs:=hx
  rw[hh]at hx;cases hx
 ·intro x hx
  have hx:x∈T.hs:=hx
  rw[hh]at hx;cases hx
 ·show(insN T.ns n).length≤1024
  rw[(insN_perm T.ns n).length_eq,List.length_cons];omega
 ·show T.hs.length≤64
  rw[hh];exact Nat.zero_le _
theorem ins_path(hi:Inv T){n:Nd}(hi':Inv (T.ins n)){m:Nd}(hm:m∈T.ns):(T.ins n).pathS m=T.pathS m:=
 (sub_path hi hi' (λx hx=>ins_mem.2 (.inr hx)) hm).symm


def formF(f:Fl)(next:Int):Prop:=
 goodName f.dir.owner=true∧goodName f.dir.group=true∧rightM f.dir.mode=true∧0≤f.dir.vers∧0≤f.dir.path∧f.dir.path<next∧0≤f.dir.time∧f.data.size≤1048576∧(isD f.dir.mode=true→f.data=emp)

abbrev mkNd(f:Fl)(up:Int):Nd:=⟨f.dir.path,f.dir.vers,f.dir.mode,f.dir.time,up,f.dir.name,f.dir.owner,f.dir.group,f.dir.last,f.data⟩
theorem mk_fl{n:Nd}:mkNd (T.fl n) n.up=n:=rfl
theorem form_of(hi:Inv T){n:Nd}(hn:n∈T.ns):formF (T.fl n) T.next:=by
 have h1:=hi.form n hn
 have h2:=hi.bound n hn
 have h3:=hi.data n hn
 exact⟨h1.1,h1.2.1,h1.2.2.1,h1.2.2.2.1,h2.1,h2.2,h1.2.2.2.2,h3.2,h3.1⟩

def Good(fs:List Fl)(next:Int):Prop:=∃T,Inv T∧T.files=fs∧T.next=next

def Sofar(fs:List Fl)(next:Int)(i:Nat)(S:Tr):Prop:=∀T,Inv T→T.files=fs→T.next=next→S.ns.Perm (T.order.take i)
theorem good_step{fs:List Fl}{next:Int}{i:Nat}{f:Fl}(ht:Inv T)(hf:T.files=fs)(hn:T.next=next)(hs:Inv S)(hS:Sofar fs next i S)(hi0:i≠0)(hx:fs[i]? =some f):
  ∃b u,T.order[i]? =some b∧f=T.fl b∧u∈S.ns∧u.dir=true∧b.up=u.path∧f.path=keyS (S.pathS u)++b.name∧S.get b.path=none∧S.kid u.path b.name=none∧goodName b.name=true∧formF f next:=by
 have hp:=hS T ht hf hn
 have hsub:∀n∈S.ns,n∈T.ns:=λn h=>order_mem ht (List.mem_of_mem_take (hp.mem_iff.1 h))
 rw[← hf,files_order,List.getElem?_map]at hx
 cases hb:T.order[i]? with
 |none=>rw[hb]at hx;cases hx
 |some b=>
  rw[hb]at hx
  obtain rfl:T.fl b=f:=Option.some.inj hx
  obtain⟨h1,h2,h3⟩:=order_at ht hb
  obtain⟨h4,h5⟩:=h2 hi0
  have hbT:=order_mem ht (List.mem_of_getElem? hb)
  have huS:T.parent b∈S.ns:=hp.mem_iff.2 h5
  obtain⟨q1,q2,q3⟩:=parent_mem ht hbT h4
  refine⟨b,T.parent b,rfl,rfl,huS,q3,q2.symm,?_,get_none.2 λn hn=>(h1 n (hp.mem_iff.1 hn)).2,?_,ht.good b hbT h4,by rw[← hn];exact form_of ht hbT⟩
  ·rw[sub_path hs ht hsub huS]
   exact pathS_key ht hbT h4
  ·cases hk:S.kid (T.parent b).path b.name with
   |none=>rfl
   |some k=>
    obtain⟨k1,k2,k3,k4⟩:=(kid_some hs).1 hk
    exact absurd (ht.names k (hsub k k1) b hbT k2 h4 (by rw[k3,q2]) k4) (h1 k (hp.mem_iff.1 k1)).2
theorem sofar_step{fs:List Fl}{next:Int}{i:Nat}{f:Fl}(hs:Inv S)(hS:Sofar fs next i S)(hi0:i≠0)(hx:fs[i]? =some f){u:Nd}(hu:u∈S.ns)
  (hkey:∀v∈S.ns,f.path=keyS (S.pathS v)++f.dir.name→v=u):Sofar fs next (i+1) (S.ins (mkNd f u.path)):=by
 intro T ht hf hn
 obtain⟨b,v,h1,h2,h3,h4,h5,h6,-⟩:=good_step ht hf hn hs hS hi0 hx
 subst h2
 have hvu:v=u:=hkey v h3 h6
 rw[List.take_add_one,h1]
 have e:mkNd (T.fl b) u.path=b:=by rw[← hvu,← h5];exact mk_fl
 rw[e]
 refine(insN_perm _ _).trans ?_
 exact((hS T ht hf hn).cons b).trans (List.perm_append_singleton _ _).symm
theorem sofar_end{fs:List Fl}{next:Int}(hs:Inv S)(hS:Sofar fs next fs.length S)(hG:Good fs next):S.files=fs:=by
 obtain⟨T,ht,hf,hn⟩:=hG
 have hp:=hS T ht hf hn
 have hl:fs.length=T.order.length:=by rw[← hf,files_order,List.length_map]
 rw[hl,List.take_length]at hp
 have e:S.ns=T.ns:=ns_of_perm hs ht (hp.trans (order_perm ht))
 have hsub:∀n∈S.ns,n∈T.ns:=λn h=>by rw[← e];exact h
 rw[← hf]
 have e2:S.get 0=T.get 0:=by unfold Tr.get;rw[e]
 have ek:∀p,S.kidsS p=T.kidsS p:=by
  intro p
  have e3:S.kids p=T.kids p:=by unfold Tr.kids;rw[e]
  unfold Tr.kidsS Tr.kid
  rw[e3]
 have eb:∀(f:Nat) (n:Nd),belowN S f n=belowN T f n:=by
  intro f
  induction f with
  |zero=>intro n;rfl
  |succ f ih=>
   intro n
   unfold belowN
   rw[ek]
   congr 1
   exact congrArg (λg=>(T.kidsS n.path).flatMap g) (funext λk=>ih k)
 unfold Tr.files
 rw[e2]
 cases h0:T.get 0 with
 |none=>rfl
 |some r=>
  simp only[]
  rw[eb]
  refine List.map_congr_left λn hn=>?_
  have hnT:=below_mem ht _ (ht.get.1 h0).1 hn
  unfold Tr.fl
  rw[sub_path hs ht hsub (by rw[e];exact hnT)]

theorem good_first{fs:List Fl}{next:Int}{f:Fl}(ht:Inv T)(hf:T.files=fs)(hn:T.next=next)(hx:fs[0]? =some f):
  ∃b,T.order[0]? =some b∧f=T.fl b∧b.path=0∧b.up=0∧f.path=sep∧f.dir.name=emp∧f.dir.path=0∧isD f.dir.mode=true∧formF f next:=by
 rw[← hf,files_order,List.getElem?_map]at hx
 cases hb:T.order[0]? with
 |none=>rw[hb]at hx;cases hx
 |some b=>
  rw[hb]at hx
  obtain rfl:T.fl b=f:=Option.some.inj hx
  have hbT:=order_mem ht (List.mem_of_getElem? hb)
  have h0:=(order_at ht hb).2.2 rfl
  have h1:=ht.rootD b hbT h0
  exact⟨b,rfl,rfl,h0,h1.2,pathS_root h0,ht.rootN b hbT h0,h0,h1.1,by rw[← hn];exact form_of ht hbT⟩
set_option maxRecDepth 100000
set_option linter.unusedVariables false
set_option linter.unusedSimpArgs false
variable {w0 w:World} {F:Nat→Prop} {l:List As}
def trimT(s p:BA):BA:=⟨(Lib.trimSuffix s.data.toList p.data.toList).toArray⟩
theorem TrimSuffix_ok{s p:BA}(hs:s.size≤9223372036854775807)(E:Hs w0 F w l):Ca PP Fn.strings_TrimSuffix #[str s,str p] w λr w'=>r=str (trimT s p)∧Hs w0 F w' l:=by
 refine Calls.mono (Tryz.strings_TrimSuffix s p w hs) ?_
 rintro e w' ⟨rfl,rfl⟩
 exact⟨_,rfl,rfl,E⟩
theorem trimT_app(p n:BA):trimT (p++n) n=p:=by
 refine ba_ext ?_
 unfold trimT Lib.trimSuffix Lib.hasSuffix
 rw[ba_appl]
 simp
theorem formed_ok{f:Fl}{next:Int}(h1:f.dir.owner.size≤9223372036854775807)(h2:f.dir.group.size≤9223372036854775807)(E:Hs w0 F w l):Ca PP Fn.tree_formed #[f.V,i64 next] w λr w'=>(∃b,r=.bool b∧(b=true↔formF f next))∧Hs w0 F w' l:=by
 refine S.tree_formed.calls ?_
 unfold S.tree_formed
 repeat with_reducible first|refine Stp.go ?_|refine StpE.go E ?_|(refine StpW.go E ?_;clear E;intro w_ E)|(refine StpA.go E ?_;clear E;intro b_ w_ hb_ E)
 (intro J8 hJ8)
 have fin:∀b w_,(b=true↔formF f next)→Hs w0 F w_ l→J8 [.bool b] w_:=by
  intro b w_ hb E
  repeat with_reducible (apply hJ8;intro u_)
  exact⟨⟨b,rfl,hb⟩,E⟩
 clear hJ8
 have no:¬formF f next→∀w_,Hs w0 F w_ l→J8 [.bool false] w_:=λh w_ E=>fin false w_ ⟨(λh=>by cases h),λh'=>absurd h' h⟩ E
 repeat with_reducible first|refine Stp.go ?_|refine StpE.go E ?_
 refine(Valid_ok h1).mono ?_
 rintro r w' ⟨rfl,rfl⟩
 cases c1:goodName f.dir.owner with
 |false=>(repeat with_reducible refine Stp.go ?_);exact no (λh=>by rw[h.1]at c1;cases c1) _ E.tl.tl
 |true=>
 repeat with_reducible first|refine Stp.go ?_|refine StpE.go E ?_
 refine(Valid_ok h2).mono ?_
 rintro r w' ⟨rfl,rfl⟩
 cases c2:goodName f.dir.group with
 |false=>(repeat with_reducible refine Stp.go ?_);exact no (λh=>by rw[h.2.1]at c2;cases c2) _ E.tl.tl
 |true=>
 repeat with_reducible first|refine Stp.go ?_|refine StpE.go E ?_
 refine(right_ok E).mono ?_
 clear E
 rintro r w_ ⟨rfl,E⟩
 cases c3:rightM f.dir.mode with
 |false=>(repeat with_reducible refine Stp.go ?_);exact no (λh=>by rw[h.2.2.1]at c3;cases c3) _ E.tl.tl
 |true=>
 repeat with_reducible first|refine Stp.go ?_|refine StpE.go E ?_
 refine Bi.geq ?_ ?_<;>intro c4<;>(repeat with_reducible first|refine Stp.go ?_|refine StpE.go E ?_)
 rotate_left
 ·exact no (λh=>by have:=h.2.2.2.1;omega) _ E.tl.tl
 refine Bi.geq ?_ ?_<;>intro c5<;>(repeat with_reducible first|refine Stp.go ?_|refine StpE.go E ?_)
 rotate_left
 ·exact no (λh=>by have:=h.2.2.2.2.1;omega) _ E.tl.tl
 refine Bi.lss ?_ ?_<;>intro c6<;>(repeat with_reducible first|refine Stp.go ?_|refine StpE.go E ?_)
 rotate_left
 ·exact no (λh=>by have:=h.2.2.2.2.2.1;omega) _ E.tl.tl
 refine Bi.geq ?_ ?_<;>intro c7<;>(repeat with_reducible first|refine Stp.go ?_|refine StpE.go E ?_)
 rotate_left
 ·exact no (λh=>by have:=h.2.2.2.2.2.2.1;omega) _ E.tl.tl
 refine Bi.leq ?_ ?_<;>intro c8<;>(repeat with_reducible first|refine Stp.go ?_|refine StpE.go E ?_)
 rotate_left
 ·exact no (λh=>by have:=h.2.2.2.2.2.2.2.1;omega) _ E.tl.tl
 refine Bi.eql ?_ ?_<;>intro c9<;>(repeat with_reducible first|refine Stp.go ?_|refine StpE.go E ?_)
 ·refine fin true _ ⟨λ_=>⟨c1,c2,c3,c4,c5,c6,c7,by omega,λh=>?_⟩,λ_=>rfl⟩ E.tl.tl
  unfold isD at h
  rw[c9]at h
  cases h
 refine Bi.seql ?_ ?_<;>intro c10<;>(repeat with_reducible refine Stp.go ?_)
 ·exact fin true _ ⟨λ_=>⟨c1,c2,c3,c4,c5,c6,c7,by omega,λ_=>c10⟩,λ_=>rfl⟩ E.tl.tl
 ·exact no (λh=>c10 (h.2.2.2.2.2.2.2.2 (by unfold isD;simpa using c9))) _ E.tl.tl
set_option maxRecDepth 100000
variable {w0 w:World} {F:Nat→Prop} {l:List As}
theorem path_size{T:Tr}(hi:Inv T){n:Nd}(hn:n∈T.ns):(T.pathS n).size≤100000:=by
 have h1:=join_size (T.chain n)
 have h2:=tot_good (chain_good hi hn)
 have h3:=chain_len hi hn
 unfold Tr.pathS
 rw[ByteArray.size_append]
 have:ByteArray.size sep=1:=rfl
 omega
set_option maxRecDepth 100000
set_option linter.unusedVariables false
set_option linter.unusedSimpArgs false
variable {w0 w:World} {F:Nat→Prop} {l:List As}
variable {D:List Row} {X:PT} {T S:Tr} {β:Int→Nat}
theorem Tie.ins (h : Tie D X T β) (hi : Inv T) (hnd : (X.ps.map PN.blk).Nodup) {u q : PN} (hu : u∈X.ps) (hnew : T.get q.f.path = none) (hup : q.f.up = u.f.path) (hname : q.f.name ∉ u.kl.map (·.1)) (hdv : Rdy D Ty.uint8 q.dv (bts q.f.data))
  (hkl : q.kl = []) (hub : q.ub = some u.blk) (hhs : T.hs = []) :
  Tie D { X with ps:=q::updB X.ps u.blk (fun m=>{ m with kl:=putL m.kl q.f.name q.blk }),fl:=putL X.fl q.f.path q.blk } (T.ins q.f) (fun p=>if p = q.f.path then q.blk else β p):=by
 obtain ⟨r0,hr0,hr1⟩:=hi.root
 have hnp:=get_none.1 hnew
 have h0 : q.f.path ≠ 0:=by rw [← hr1]; exact fun e=>hnp r0 hr0 e.symm
 have hT : ∀ n∈X.ps,n.f∈T.ns:=fun n hn=>h.mem.2 ⟨n,hn,rfl⟩
 have hb:=fun n hn=>hnp _ (hT n hn)
 -- the others,with the directory's map turned
 have hsame : (updB X.ps u.blk fun m=>{ m with kl:=putL m.kl q.f.name q.blk }).map PN.f = X.ps.map PN.f:=by
  unfold updB
  rw [List.map_map]
  refine List.map_congr_left fun m _=>?_
  simp only [Function.comp]; split <;> rfl
 have huni : ∀ m∈X.ps,m.blk = u.blk→m = u:=by
  intro m hm he
  have key : ∀ (ps : List PN),(ps.map PN.blk).Nodup→m∈ps→u∈ps→m = u:=by
   intro ps
   induction ps with
   | nil=>intro _ h; cases h
   | cons x r ih =>
    intro hp ha hb
    rw [List.map_cons,List.nodup_cons] at hp
    rcases List.mem_cons.1 ha with h1 | ha <;> rcases List.mem_cons.1 hb with h2 | hb
    ·rw [h1,h2]
    ·exact absurd (List.mem_map.2 ⟨u,hb,by rw [← h1,he]⟩) hp.1
    ·exact absurd (List.mem_map.2 ⟨m,ha,by rw [← h2,he]⟩) hp.1
    ·exact ih hp.2 ha hb
  exact key _ hnd hm hu
 have mm : ∀ {P : PN→Prop},(∀ m∈X.ps,P (if m.blk = u.blk then { m with kl:=putL m.kl q.f.name q.blk } else m))→P q→∀ p∈q::updB X.ps u.blk (fun m=>{ m with kl:=putL m.kl q.f.name q.blk }),P p:=by
  intro P h1 h2 p hp
  rcases List.mem_cons.1 hp with rfl | hp
  ·exact h2
  ·obtain ⟨m,hm,rfl⟩:=List.mem_map.1 hp
   exact h1 m hm
 have hfilt : ∀ p,((q::updB X.ps u.blk fun m=>{ m with kl:=putL m.kl q.f.name q.blk }).filter fun k=>Tr.isKid p k.f).map (fun k=>(k.f.name,k.blk)) = (if p = u.f.path then [(q.f.name,q.blk)] else [])++(X.ps.filter fun k=>Tr.isKid p k.f).map fun k=>(k.f.name,k.blk):=by
  intro p
  have e1 : ((updB X.ps u.blk fun m=>{ m with kl:=putL m.kl q.f.name q.blk }).filter fun k=>Tr.isKid p k.f).map (fun k=>(k.f.name,k.blk)) = (X.ps.filter fun k=>Tr.isKid p k.f).map fun k=>(k.f.name,k.blk):=by
   unfold updB
   rw [List.filter_map,List.map_map]
   have e2 : X.ps.filter ((fun k=>Tr.isKid p k.f) ∘ fun m=>if m.blk = u.blk then { m with kl:=putL m.kl q.f.name q.blk } else m) = X.ps.filter fun k=>Tr.isKid p k.f:=by
    refine List.filter_congr fun k _=>?_
    simp only [Function.comp]; split <;> rfl
   rw [e2]
   refine List.map_congr_left fun k _=>?_
   simp only [Function.comp]; split <;> rfl
  have hk : Tr.isKid p q.f = decide (p = u.f.path):=by
   unfold Tr.isKid
   rw [hup]
   by_cases hpp : p = u.f.path
   ·rw [decide_eq_true hpp,decide_eq_true ⟨h0,hpp.symm⟩]
   ·rw [decide_eq_false hpp,decide_eq_false fun hc=>hpp hc.2.symm]
  rw [List.filter_cons,hk]
  by_cases hpp : p = u.f.path
  ·rw [decide_eq_true hpp,if_pos rfl,if_pos hpp,List.map_cons,e1]; rfl
  ·rw [decide_eq_false hpp,if_neg (by simp),if_neg hpp,e1]; rfl
 refine ⟨?_,h.clock,h.next,mm ?_ ?_,mm ?_ ?_,mm ?_ ?_,?_,?_,h.gs,mm ?_ ?_,?_,?_⟩
 ·show ((q::updB X.ps u.blk _).map PN.f).Perm (insN T.ns q.f)
  rw [List.map_cons,hsame]
  exact (h.ns.cons q.f).trans (insN_perm _ _).symm
 ·intro m hm
  have:=h.data m hm
  split <;> exact this
 ·exact hdv
 ·intro m hm
  have h1:=h.ub m hm
  have key : ∀ v∈X.ps,(if v.blk = u.blk then { v with kl:=putL v.kl q.f.name q.blk } else v)∈q::updB X.ps u.blk (fun m=>{ m with kl:=putL m.kl q.f.name q.blk }):=fun v hv=>List.mem_cons_of_mem _ (List.mem_map.2 ⟨v,hv,rfl⟩)
  have h2 : (m.f.path = 0→m.ub = none)∧(m.f.path ≠ 0→∃ u_1∈q::updB X.ps u.blk (fun m=>{ m with kl:=putL m.kl q.f.name q.blk }),u_1.f.path = m.f.up∧m.ub = some u_1.blk):=by
   refine ⟨h1.1,fun h0=>?_⟩
   obtain ⟨v,hv,h3,h4⟩:=h1.2 h0
   refine ⟨_,key v hv,?_,?_⟩
   ·split <;> exact h3
   ·split <;> exact h4
  split <;> exact h2
 ·refine ⟨fun h1=>absurd h1 h0,fun _=>?_⟩
  refine ⟨_,List.mem_cons_of_mem _ (List.mem_map.2 ⟨u,hu,rfl⟩),?_,?_⟩
  ·rw [if_pos rfl]; exact hup.symm
  ·rw [if_pos rfl]; exact hub
 ·intro m hm
  have h1:=h.kl m hm
  by_cases he : m.blk = u.blk
  ·obtain rfl:=huni m hm he
   rw [if_pos rfl]
   show (putL m.kl q.f.name q.blk).Perm _
   rw [hfilt,if_pos rfl,putL_new hname]
   exact List.perm_append_comm.trans (h1.cons _)
  ·rw [if_neg he]
   rw [hfilt,if_neg fun hc=>he (by rw [h.inj hi hm hu hc])]
   exact h1
 ·rw [hkl,hfilt]
  have hq : q.f.path ≠ u.f.path:=fun e=>hb u hu e.symm
  rw [if_neg hq,List.nil_append]
  have : (X.ps.filter fun k=>Tr.isKid q.f.path k.f) = []:=by
   rw [List.filter_eq_nil_iff]
   intro k hk hc
   have hc : k.f.path ≠ 0∧k.f.up = q.f.path:=by simpa [Tr.isKid] using hc
   obtain ⟨v,hv,h1,_⟩:=hi.up _ (hT k hk) hc.1
   exact hnp v hv (by rw [h1,hc.2])
  rw [this]
  exact List.Perm.refl _
 ·have hout : q.f.path ∉ X.fl.map (·.1):=by
   intro hc
   have:=(h.fl.map (·.1)).mem_iff.1 hc
   rw [List.map_map] at this
   obtain ⟨m,hm,he⟩:=List.mem_map.1 this
   exact hb m hm he
  show (putL X.fl q.f.path q.blk).Perm ((q::updB X.ps u.blk _).map fun n=>(n.f.path,n.blk))
  rw [putL_new hout,List.map_cons]
  have e1 : (updB X.ps u.blk fun m=>{ m with kl:=putL m.kl q.f.name q.blk }).map (fun n=>(n.f.path,n.blk)) = X.ps.map fun n=>(n.f.path,n.blk):=by
   unfold updB
   rw [List.map_map]
   refine List.map_congr_left fun k _=>?_
   simp only [Function.comp]; split <;> rfl
  rw [e1]
  exact List.perm_append_comm.trans (h.fl.cons _)
 ·obtain ⟨r,hr,h1,h2⟩:=h.root
  refine ⟨_,List.mem_cons_of_mem _ (List.mem_map.2 ⟨r,hr,rfl⟩),?_,?_⟩
  ·split <;> exact h1
  ·split <;> exact h2
 ·intro m hm
  have h1:=h.bl m hm
  have h2:=hb m hm
  have e : ∀ x : PN,x.f = m.f→x.blk = m.blk→(if x.f.path = q.f.path then q.blk else β x.f.path) = x.blk:=fun x e1 e2=>by rw [e1,e2,if_neg h2]; exact h1
  by_cases hmb : m.blk = u.blk
  ·rw [if_pos hmb]; exact e _ rfl rfl
  ·rw [if_neg hmb]; exact e _ rfl rfl
 ·rw [if_pos rfl]
 ·have h1:=h.ol
  rw [hhs] at h1
  show X.ol.Perm (T.hs.map _)
  rw [hhs]
  exact h1
 ·intro x hx
  have hx : x∈T.hs:=hx
  rw [hhs] at hx
  cases hx
theorem getL_putB{κ α:Type}[DecidableEq κ](v:α)(L:List (κ×α))(k j:κ):getL (putL L k v) j=if j=k then some v else getL L j:=by
 induction L with
 |nil=>
  unfold putL getL
  by_cases h:j=k<;>simp[h]
 |cons p r ih=>
  unfold putL
  by_cases hk:k=p.1
  ·rw[if_pos hk]
   unfold getL
   rw[List.find?_cons,List.find?_cons]
   by_cases hj:j=k
   ·simp[hj]
   ·simp only[hj,decide_false,if_false]
    rw[show decide (j=p.1)=false by simpa[← hk] using hj]
  ·rw[if_neg hk]
   unfold getL at ih ⊢
   rw[List.find?_cons,List.find?_cons]
   by_cases hj:j=p.1
   ·have:¬j=k:=λh=>hk (h▸hj)
    simp[hj,Ne.symm hk]
   ·simp only[hj,decide_false]
    exact ih

def DK(S:Tr)(ps:List PN)(p:Int)(dl:List (BA×Nat)):Prop:=∀k b,getL dl k=some b↔∃u∈ps,u.f.dir=true∧u.f.path≠p∧keyS (S.pathS u.f)=k∧u.blk=b
theorem DK.ins{ps:List PN}{dl:List (BA×Nat)}(hD:DK S ps (-1) dl)(hs:Inv S){q:PN}(hs':Inv (S.ins q.f))(hm:∀m∈ps,m.f∈S.ns)(hnew:S.get q.f.path=none){b:Nat}{g:PN→PN}(hg:∀m,(g m).f=m.f∧(g m).blk=m.blk):
  DK (S.ins q.f) (q::updB ps b g) q.f.path dl:=by
 have hb:=get_none.1 hnew
 intro k b'
 rw[hD k b']
 constructor
 ·rintro⟨u,hu,h1,h2,h3,h4⟩
  refine⟨if u.blk=b then g u else u,List.mem_cons_of_mem _ (List.mem_map.2 ⟨u,hu,rfl⟩),?_⟩
  have e:(if u.blk=b then g u else u).f=u.f∧(if u.blk=b then g u else u).blk=u.blk:=by split;exact hg u;exact⟨rfl,rfl⟩
  rw[e.1,e.2]
  exact⟨h1,hb _ (hm u hu),by rw[ins_path hs hs' (hm u hu)];exact h3,h4⟩
 ·rintro⟨v,hv,h1,h2,h3,h4⟩
  rcases List.mem_cons.1 hv with rfl|hv
  ·exact absurd rfl h2
  ·obtain⟨u,hu,rfl⟩:=List.mem_map.1 hv
   have e:(if u.blk=b then g u else u).f=u.f∧(if u.blk=b then g u else u).blk=u.blk:=by split;exact hg u;exact⟨rfl,rfl⟩
   rw[e.1]at h1 h2 h3
   rw[e.2]at h4
   exact⟨u,hu,h1,by have:=hs.bound _ (hm u hu);omega,by rw[ins_path hs hs' (hm u hu)]at h3;exact h3,h4⟩
theorem DK.add(hT:Tie D X S β)(hs:Inv S){dl:List (BA×Nat)}{q:PN}(hq:q∈X.ps)(hD:DK S X.ps q.f.path dl)(hd:q.f.dir=true):DK S X.ps (-1) (putL dl (keyS (S.pathS q.f)) q.blk):=by
 have hm:=λm (h:m∈X.ps)=>hT.mem.2 ⟨m,h,rfl⟩
 intro k b
 rw[getL_putB]
 by_cases hk:k=keyS (S.pathS q.f)
 ·rw[if_pos hk]
  constructor
  ·intro e
   cases e
   exact⟨q,hq,hd,by have:=hs.bound _ (hm q hq);omega,hk.symm,rfl⟩
  ·rintro⟨u,hu,h1,h2,h3,h4⟩
   have:=keyS_inj (pathS_nil _) (pathS_nil _) (h3.trans hk)
   have:=pathS_inj hs (hm u hu) (hm q hq) this
   have:=hT.inj hs hu hq (by rw[this])
   rw[← h4,this]
 ·rw[if_neg hk,hD k b]
  constructor
  ·rintro⟨u,hu,h1,h2,h3,h4⟩
   exact⟨u,hu,h1,by have:=hs.bound _ (hm u hu);omega,h3,h4⟩
  ·rintro⟨u,hu,h1,h2,h3,h4⟩
   refine⟨u,hu,h1,λe=>hk ?_,h3,h4⟩
   have:=hT.inj hs hu hq e
   rw[← h3,this]
theorem DK.skip(hT:Tie D X S β)(hs:Inv S){dl:List (BA×Nat)}{q:PN}(hq:q∈X.ps)(hD:DK S X.ps q.f.path dl)(hd:q.f.dir=false):DK S X.ps (-1) dl:=by
 have hm:=λm (h:m∈X.ps)=>hT.mem.2 ⟨m,h,rfl⟩
 intro k b
 rw[hD k b]
 constructor
 ·rintro⟨u,hu,h1,h2,h3,h4⟩
  exact⟨u,hu,h1,by have:=hs.bound _ (hm u hu);omega,h3,h4⟩
 ·rintro⟨u,hu,h1,h2,h3,h4⟩
  refine⟨u,hu,h1,λe=>?_,h3,h4⟩
  have:=hT.inj hs hu hq e
  rw[this,hd]at h1
  cases h1

theorem key_trim(hi:Inv T){n:Nd}(hn:n∈T.ns):trimT (T.pathS n) sep++sep=keyS (T.pathS n):=by
 by_cases h0:n.path=0
 ·rw[pathS_root h0];rfl
 ·have hg:=good_parts (hi.good n hn h0)
  have hk:=pathS_key hi hn h0
  have hne:T.pathS n≠sep:=by
   intro e
   obtain⟨r,hr⟩:=root_get hi
   have h1:=hi.get.1 hr
   exact h0 (by rw[pathS_inj hi hn h1.1 (by rw[e,pathS_root h1.2]),h1.2])
  have:trimT (T.pathS n) sep=T.pathS n:=by
   refine ba_ext ?_
   unfold trimT Lib.trimSuffix
   rw[if_neg]
   intro hc
   unfold Lib.hasSuffix at hc
   rw[hk,ba_appl,sep_list]at hc
   obtain⟨t,ht⟩:=List.isSuffixOf_iff_suffix.1 hc
   have hnl:n.name.data.toList≠[]:=λe=>hg.1 (ba_ext e)
   have h1:=congrArg List.getLast? ht
   rw[List.getLast?_append,List.getLast?_append,List.getLast?_eq_some_getLast hnl]at h1
   simp only[List.getLast?_singleton,Option.some_or,Option.some.injEq]at h1
   exact hg.2.2.2 (h1▸List.getLast_mem hnl)
  rw[this,keyS,if_neg hne]
set_option maxRecDepth 100000
set_option linter.unusedVariables false
set_option linter.unusedSimpArgs false
variable {S T:Tr} {fs:List Fl} {next:Int}
def rightF(f:Fl)(next:Int):Prop:=formF f next∧f.dir.kind=kindOf f.dir.mode∧f.dir.len=f.data.size

def isUp(fs:List Fl)(i k:Nat):Prop:=k<i∧∃f u,fs[i]? =some f∧fs[k]? =some u∧isD u.dir.mode=true∧f.path=keyS u.path++f.dir.name
structure RefOk(fs:List Fl)(next:Int):Prop where
 first:∃f,fs[0]? =some f∧f.path=sep∧f.dir.name=emp∧f.dir.path=0∧isD f.dir.mode=true
 right:∀(i:Nat) f,fs[i]? =some f→rightF f next
 name:∀(i:Nat) f,i≠0→fs[i]? =some f→goodName f.dir.name=true
 up:∀(i:Nat) f,i≠0→fs[i]? =some f→∃k,isUp fs i k
 diff:∀(i k:Nat) f g,k<i→fs[i]? =some f→fs[k]? =some g→g.dir.path≠f.dir.path∧g.path≠f.path
theorem files_ns(ht:Inv T)(hs:Inv S)(e:S.ns=T.ns):S.files=T.files:=by
 have hsub:∀n∈S.ns,n∈T.ns:=λn h=>by rw[← e];exact h
 have e2:S.get 0=T.get 0:=by unfold Tr.get;rw[e]
 have ek:∀p,S.kidsS p=T.kidsS p:=by
  intro p
  have e3:S.kids p=T.kids p:=by unfold Tr.kids;rw[e]
  unfold Tr.kidsS Tr.kid
  rw[e3]
 have eb:∀(f:Nat) (n:Nd),belowN S f n=belowN T f n:=by
  intro f
  induction f with
  |zero=>intro n;rfl
  |succ f ih=>
   intro n
   unfold belowN
   rw[ek]
   congr 1
   exact congrArg (λg=>(T.kidsS n.path).flatMap g) (funext λk=>ih k)
 unfold Tr.files
 rw[e2]
 cases h0:T.get 0 with
 |none=>rfl
 |some r=>
  simp only[]
  rw[eb]
  refine List.map_congr_left λn hn=>?_
  have hnT:=below_mem ht _ (ht.get.1 h0).1 hn
  unfold Tr.fl
  rw[sub_path hs ht hsub (by rw[e];exact hnT)]

theorem good_ref(hG:Good fs next):RefOk fs next∧1≤next∧fs.length≤1024:=by
 obtain⟨T,ht,hf,hn⟩:=hG
 have at_:∀(i:Nat) f,fs[i]? =some f→∃b,T.order[i]? =some b∧f=T.fl b:=by
  intro i f hx
  rw[← hf,files_order,List.getElem?_map]at hx
  cases hb:T.order[i]? with
  |none=>rw[hb]at hx;cases hx
  |some b=>rw[hb]at hx;exact⟨b,rfl,(Option.some.inj hx).symm⟩
 have to:∀(i:Nat) b,T.order[i]? =some b→fs[i]? =some (T.fl b):=by
  intro i b hb
  rw[← hf,files_order,List.getElem?_map,hb];rfl
 have hmem:∀(i:Nat) b,T.order[i]? =some b→b∈T.ns:=λi b hb=>order_mem ht (List.mem_of_getElem? hb)
 refine⟨⟨?_,?_,?_,?_,?_⟩,?_,by rw[← hf];exact files_len ht⟩
 ·obtain⟨r,L,h1,h2,h3⟩:=order_first ht
  have hx:=to 0 r (by rw[h1];rfl)
  obtain⟨b,g1,g2,g3,g4,g5,g6,g7,g8,g9⟩:=good_first ht hf hn hx
  exact⟨_,hx,g5,g6,g7,g8⟩
 ·intro i f hx
  obtain⟨b,hb,rfl⟩:=at_ i f hx
  exact⟨by rw[← hn];exact form_of ht (hmem i b hb),rfl,rfl⟩
 ·intro i f hi0 hx
  obtain⟨b,hb,rfl⟩:=at_ i f hx
  exact ht.good b (hmem i b hb) ((order_at ht hb).2.1 hi0).1
 ·intro i f hi0 hx
  obtain⟨b,hb,rfl⟩:=at_ i f hx
  obtain⟨h1,h2⟩:=(order_at ht hb).2.1 hi0
  obtain⟨k,hk⟩:=List.getElem?_of_mem h2
  rw[List.getElem?_take]at hk
  split at hk
  ·rename_i hki
   obtain⟨q1,q2,q3⟩:=parent_mem ht (hmem i b hb) h1
   exact⟨k,hki,_,_,hx,to k _ hk,q3,pathS_key ht (hmem i b hb) h1⟩
  ·cases hk
 ·intro i k f g hki hx hy
  obtain⟨b,hb,rfl⟩:=at_ i f hx
  obtain⟨c,hc,rfl⟩:=at_ k g hy
  have h1:=(order_at ht hb).1 c (List.mem_of_getElem? (i:=k) (by rw[List.getElem?_take,if_pos hki];exact hc))
  exact⟨h1.2,h1.1⟩
 ·obtain⟨r,hr,h0⟩:=ht.root
  have:=ht.bound r hr
  omega
set_option maxRecDepth 100000
set_option linter.unusedVariables false
set_option linter.unusedSimpArgs false
variable {w0 w:World} {F:Nat→Prop} {l:List As}
variable {D:List Row} {X:PT} {T S:Tr} {β:Int→Nat}

structure Lp(D:List Row)(X:PT)(gs:Gs)(fs:List Fl)(clock next:Int)(i:Nat)(S:Tr)(β:Int→Nat):Prop where
 tie:Tie D X S β
 inv:Inv S
 hs:S.hs=[]
 gs:S.gs=gs
 ck:S.clock=clock
 nx:S.next=next
 sf:Sofar fs next i S
 ln:S.ns.length=i
abbrev xT(t fm gm om:Nat)(next clock:Int)(gr:List (BA×Value))(rt:Nat)(ps:List PN)(fl:List (Int×Nat)):PT:=⟨t,rt,fm,gm,om,next,clock,ps,[],fl,gr,[]⟩

def LpS(t fm gm om:Nat)(next clock:Int)(gr:List (BA×Value))(gs:Gs)(fs:List Fl)(i:Nat)(D:List Row)(rv:Value)(ps:List PN)(fl:List (Int×Nat))(dl:List (BA×Nat)):Prop:=
 (i=0∧rv=np∧ps=[]∧fl=[]∧dl=[])∨(0<i∧∃rt S β,rv=ptr rt∧Lp D (xT t fm gm om next clock gr rt ps fl) gs fs clock next i S β∧DK S ps (-1) dl)
abbrev tR(t fm gm om:Nat)(next clock:Int)(rv:Value):As:=pt t (oc [rv,.map (some fm),.map (some gm),i64 next,i64 clock,.map (some om)] Ty.t17)
def fszs(fs:List Fl):Prop:=∀f∈fs,f.path.size≤9223372036854775807∧f.dir.name.size≤9223372036854775807∧f.dir.owner.size≤9223372036854775807∧f.dir.group.size≤9223372036854775807
theorem Lp.mono{D':List Row}{gs:Gs}{fs:List Fl}{clock next:Int}{i:Nat}(h:Lp D X gs fs clock next i S β)(hD:∀x∈D,x∈D'):Lp D' X gs fs clock next i S β:=⟨h.tie.monoD hD,h.inv,h.hs,h.gs,h.ck,h.nx,h.sf,h.ln⟩
theorem lps_mono{D':List Row}{t fm gm om:Nat}{next clock:Int}{gr:List (BA×Value)}{gs:Gs}{fs:List Fl}{i:Nat}{rv:Value}{ps:List PN}{fl:List (Int×Nat)}{dl:List (BA×Nat)}(h:LpS t fm gm om next clock gr gs fs i D rv ps fl dl)(hD:∀x∈D,x∈D'):
  LpS t fm gm om next clock gr gs fs i D' rv ps fl dl:=by
 rcases h with h|⟨hi,rt,S,β,e,hL,hd⟩
 ·exact .inl h
 ·exact .inr ⟨hi,rt,S,β,e,hL.mono hD,hd⟩
theorem gtie_mono{D':List Row}{gv:List (BA×Value)}{gs:List (BA×List BA)}(h:GTie D gv gs)(hD:∀x∈D,x∈D'):GTie D' gv gs:=by
 refine⟨λg=>?_,h.nd⟩
 have:=h.at_ g
 cases hq:getL gs g with
 |none=>rw[hq]at this;exact this
 |some us=>
  rw[hq]at this
  obtain⟨h1,v,h2,h3⟩:=this
  exact⟨h1,v,h2,h3.mono hD⟩
theorem lps_good{t fm gm om:Nat}{next clock:Int}{gr:List (BA×Value)}{gs:Gs}{fs:List Fl}{i:Nat}{rv:Value}{ps:List PN}{fl:List (Int×Nat)}{dl:List (BA×Nat)}(hL:LpS t fm gm om next clock gr gs fs i D rv ps fl dl){f:Fl}(hx:fs[i]? =some f)(hG:Good fs next):
  formF f next∧getL fl f.dir.path=none∧(i=0→f.dir.name=emp∧f.dir.path=0∧isD f.dir.mode=true)∧(i≠0→goodName f.dir.name=true∧∃u∈ps,u.f.dir=true∧getL dl (trimT f.path f.dir.name)=some u.blk∧getL u.kl f.dir.name=none):=by
 obtain⟨T,ht,hf,hn⟩:=hG
 rcases hL with⟨rfl,-,-,rfl,-⟩|⟨hi,rt,S,β,-,hL,hdk⟩
 ·obtain⟨b,h1,h2,h3,h4,h5,h6,h7,h8,h9⟩:=good_first ht hf hn hx
  exact⟨h9,rfl,λ_=>⟨h6,h7,h8⟩,λh=>absurd rfl h⟩
 ·obtain⟨b,u,h1,rfl,h3,h4,h5,h6,h7,h8,h9,h10⟩:=good_step ht hf hn hL.inv hL.sf (by omega) hx
  obtain⟨v,hv,rfl⟩:=hL.tie.mem.1 h3
  refine⟨h10,?_,λh=>by omega,λ_=>⟨h9,v,hv,h4,?_,?_⟩⟩
  ·rcases hL.tie.find hL.inv b.path with⟨-,h⟩|⟨n,rs,-,-,-,h,-⟩
   ·exact h
   ·rw[h7]at h;cases h
  ·refine(hdk _ _).2 ⟨v,hv,h4,?_,?_,rfl⟩
   ·have:=hL.inv.bound _ h3;omega
   ·rw[h6];exact(trimT_app _ _).symm
  ·rcases hL.tie.kid hL.inv hv b.name with⟨-,h⟩|⟨k,-,h,-⟩
   ·exact h
   ·rw[h8]at h;cases h
theorem form_inv{f:Fl}{next:Int}(h:formF f next){up:Int}:((mkNd f up).dir=true→(mkNd f up).data=emp)∧(mkNd f up).data.size≤1048576:=⟨h.2.2.2.2.2.2.2.2,h.2.2.2.2.2.2.2.1⟩
theorem lps_zero {t fm gm om : Nat} {next clock : Int} {gr : List (BA × Value)} {gs : Gs} {fs : List Fl} {f : Fl} (hx : fs[0]? = some f) (hF : formF f next) (hc : 0≤clock) (hn : f.dir.name = emp) (hp : f.dir.path = 0) (hd : isD f.dir.mode = true) (hgt : GTie D gr gs)
    {nb kb : Nat} {dv : Value} (hdv : Rdy D Ty.uint8 dv (bts f.data)) :
    ∃ S β,Lp D (xT t fm gm om next clock gr nb [⟨mkNd f 0,nb,f.dir.len,dv,kb,[],none⟩] (putL [] f.dir.path nb)) gs fs clock next 1 S β∧DK S [⟨mkNd f 0,nb,f.dir.len,dv,kb,[],none⟩] f.dir.path []:=by
  obtain ⟨q,hq⟩ : ∃ q : PN,q = ⟨mkNd f 0,nb,f.dir.len,dv,kb,[],none⟩:=⟨_,rfl⟩
  obtain ⟨S,hS⟩ : ∃ S : Tr,S = ⟨[mkNd f 0],clock,next,gs,[]⟩:=⟨_,rfl⟩
  rw [← hq]
  have mm : ∀ {P : Nd→Prop},P (mkNd f 0)→∀ n∈S.ns,P n:=by
    intro P h n hn
    rw [hS] at hn
    rw [List.mem_singleton.1 hn]; exact h
  have hb:=hF.2.2.2.2
  have hi : Inv S:=by
    refine ⟨by rw [hS]; exact List.pairwise_singleton _ _,⟨mkNd f 0,by rw [hS]; exact List.mem_singleton.2 rfl,hp⟩,mm ⟨hb.1,by rw [hS]; exact hb.2.1⟩,mm fun _=>⟨hd,rfl⟩,mm fun h=>absurd hp h,mm fun _ _ h=>absurd hp h,mm fun h=>absurd hp h,⟨fun _=>0,mm fun h=>absurd hp h⟩,
      mm (form_inv hF),mm ⟨hF.1,hF.2.1,hF.2.2.1,hF.2.2.2.1,hb.2.2.1⟩,by rw [hS]; exact List.Pairwise.nil,(by rw [hS]; intro _ h; cases h),(by rw [hS]; intro _ h; cases h),(by rw [hS]; intro _ h; cases h),⟨by rw [hS]; show 1≤1024; omega,by rw [hS]; exact Nat.zero_le _⟩,by rw [hS]; exact hc,mm fun _=>hn⟩
  have hT : Tie D (xT t fm gm om next clock gr nb [q] (putL [] f.dir.path nb)) S (fun _=>nb):=by
    rw [hS]
    refine ⟨by rw [hq]; exact List.Perm.refl _,rfl,rfl,?_,?_,?_,by rw [hq]; exact List.Perm.refl _,⟨_,List.mem_singleton.2 rfl,by rw [hq]; exact hp,by rw [hq]⟩,hgt,?_,List.Perm.refl _,fun x h=>by cases h⟩
    · intro n hn
      rw [List.mem_singleton.1 hn,hq]
      exact hdv
    · intro n hn
      rw [List.mem_singleton.1 hn,hq]
      exact ⟨fun _=>rfl,fun h=>absurd hp h⟩
    · intro n hn
      rw [List.mem_singleton.1 hn]
      have : ([q].filter fun k=>Tr.isKid q.f.path k.f) = []:=by
        rw [List.filter_eq_nil_iff]
        intro k hk hc
        rw [List.mem_singleton.1 hk,hq] at hc
        unfold Tr.isKid at hc
        exact (of_decide_eq_true hc).1 hp
      show q.kl.Perm (([q].filter fun k=>Tr.isKid q.f.path k.f).map _)
      rw [this,hq]
      exact List.Perm.refl _
    · intro n hn
      rw [List.mem_singleton.1 hn,hq]
  refine ⟨S,_,⟨hT,hi,by rw [hS],by rw [hS],by rw [hS],by rw [hS],?_,by rw [hS]; rfl⟩,?_⟩
  · intro T ht hf hnx
    obtain ⟨b,h1,h2,h3,h4,-⟩:=good_first ht hf hnx hx
    rw [List.take_one,List.head?_eq_getElem?,h1,hS,h2]
    show [mkNd (T.fl b) 0].Perm [b]
    rw [← h4]
    exact List.Perm.refl _
  · intro k b
    constructor
    · intro h; cases h
    · rintro ⟨u,hu,h1,h2,-⟩
      rw [List.mem_singleton.1 hu,hq] at h2
      exact absurd rfl h2
theorem lps_step{t fm gm om:Nat}{next clock:Int}{gr:List (BA×Value)}{gs:Gs}{fs:List Fl}{i:Nat}{rt:Nat}{ps:List PN}{fl:List (Int×Nat)}{dl:List (BA×Nat)}(hL:Lp D (xT t fm gm om next clock gr rt ps fl) gs fs clock next i S β)(hdk:DK S ps (-1) dl)(hnd:(ps.map PN.blk).Nodup)
  (hi0:0<i){f:Fl}(hx:fs[i]? =some f)(hl:i<1024)(hF:formF f next)(hnew:getL fl f.dir.path=none)(hg:goodName f.dir.name=true){u:PN}(hu:u∈ps)(hud:u.f.dir=true)(hk:keyS (S.pathS u.f)=trimT f.path f.dir.name)(hkid:getL u.kl f.dir.name=none)
  {nb kb:Nat}{dv:Value}(hdv:Rdy D Ty.uint8 dv (bts f.data)):
  ∃S' β',Lp D (xT t fm gm om next clock gr rt (⟨mkNd f u.f.path,nb,f.dir.len,dv,kb,[],some u.blk⟩::updB ps u.blk (λm=>{m with kl:=putL m.kl f.dir.name nb})) (putL fl f.dir.path nb)) gs fs clock next (i+1) S' β'∧
   DK S' (⟨mkNd f u.f.path,nb,f.dir.len,dv,kb,[],some u.blk⟩::updB ps u.blk (λm=>{m with kl:=putL m.kl f.dir.name nb})) f.dir.path dl:=by
 obtain⟨q,hq⟩:∃q:PN,q=⟨mkNd f u.f.path,nb,f.dir.len,dv,kb,[],some u.blk⟩:=⟨_,rfl⟩
 have huS:=hL.tie.mem.2 ⟨u,hu,rfl⟩
 have hget:S.get f.dir.path=none:=by
  rcases hL.tie.find hL.inv f.dir.path with⟨h,-⟩|⟨n,rs,-,-,-,-,h⟩
  ·exact h
  ·have h:getL fl f.dir.path=some n.blk:=h
   rw[hnew]at h;cases h
 have hkn:S.kid u.f.path f.dir.name=none:=by
  rcases hL.tie.kid hL.inv hu f.dir.name with⟨h,-⟩|⟨k,-,-,h⟩
  ·exact h
  ·rw[hkid]at h;cases h
 have hb:=hF.2.2.2.2
 have hi:Inv (S.ins (mkNd f u.f.path)):=hL.inv.ins (u:=u.f) ⟨hb.1,by rw[hL.nx];exact hb.2.1⟩ hget huS rfl hud hkn hg (form_inv hF) ⟨hF.1,hF.2.1,hF.2.2.1,hF.2.2.2.1,hb.2.2.1⟩ (by rw[hL.ln];exact hl) hL.hs
 have hT:=hL.tie.ins (q:=q) hL.inv hnd hu (by rw[hq];exact hget) (by rw[hq]) (by rw[hq];exact getL_none.1 hkid) (by rw[hq];exact hdv) (by rw[hq]) (by rw[hq]) hL.hs
 have hdk2:=hdk.ins (q:=q) hL.inv (by rw[hq];exact hi) (λm hm=>hL.tie.mem.2 ⟨m,hm,rfl⟩) (by rw[hq];exact hget) (b:=u.blk) (g:=λm=>{m with kl:=putL m.kl f.dir.name nb}) λ_=>⟨rfl,rfl⟩
 refine⟨S.ins (mkNd f u.f.path),_,⟨by rw[hq]at hT;exact hT,hi,hL.hs,hL.gs,hL.ck,hL.nx,?_,?_⟩,by rw[hq]at hdk2;exact hdk2⟩
 ·refine sofar_step hL.inv hL.sf (by omega) hx huS λv hv hkv=>?_
  have h1:keyS (S.pathS v)=keyS (S.pathS u.f):=by rw[hk,hkv];exact(trimT_app _ _).symm
  exact pathS_inj hL.inv hv huS (keyS_inj (pathS_nil _) (pathS_nil _) h1)
 ·show(insN S.ns _).length=i+1
  rw[(insN_perm _ _).length_eq,List.length_cons,hL.ln]
set_option maxRecDepth 100000
set_option linter.unusedVariables false
set_option linter.unusedSimpArgs false
variable {w0 w:World} {F:Nat→Prop} {l:List As}
variable {D:List Row} {X:PT} {T S:Tr} {β:Int→Nat}

def RsQ(w0:World)(F:Nat→Prop)(l:List As)(D:List Row)(gs:Gs)(fs:List Fl)(clock next:Int)(r:Value)(w':World):Prop:=
 (∃e:Int,r=.tuple #[np,i64 e]∧(∃D',(∀x∈D,x∈D')∧Hs w0 F w' (Pool D'::l))∧((checkG gs []≠0∧e=checkG gs [])∨(checkG gs []=0∧1024<fs.length∧e=3)∨(checkG gs []=0∧fs.length≤1024∧¬(0≤clock∧Good fs next)∧e=2)))∨
 (checkG gs []=0∧fs.length≤1024∧0≤clock∧∃D' X β S,r=.tuple #[ptr X.t,i64 0]∧(∀x∈D,x∈D')∧Tie D' X S β∧Inv S∧S.hs=[]∧S.gs=gs∧S.clock=clock∧S.next=next∧S.files=fs∧Hs w0 F w' (trA X::Pool D'::l))
theorem Restore_ok{gV fV:Value}{gv:List (BA×Value)}{gs:Gs}{fs:List Fl}{clock next:Int}(hg:GIn w0 F l gV gv gs)(hgl:gs.length≤100000)(hul:∀g∈gs,g.2.length≤100000)(hsz:∀s∈gwords gs,s.size≤9223372036854775807)
  (hf:RdS w0 F l 12 fs.length fV (fcs fs))(hfl:fs.length≤1000000)(hfs:fszs fs)(E:Hs w0 F w (Pool D::l)):
  Ca PP Fn.tree_Restore #[gV,fV,i64 clock,i64 next] w (RsQ w0 F l D gs fs clock next):=by
 refine S.tree_Restore.calls ?_
 unfold S.tree_Restore
 have E0:=Hs.nilSl E Ty.t9 1
 refine Ca.mono (check_ok (names:=[]) (hg.weaken λw E=>E.tl) (by simp) hgl hul (by simpa using hsz) E0) ?_
 clear E E0
 rintro r w_ ⟨rfl,E⟩
 refine Bi.neq ?_ ?_<;>intro hc<;>(repeat with_reducible refine Stp.go ?_)
 ·exact .inl ⟨_,rfl,⟨D,λ_ h=>h,E⟩,.inl ⟨hc,rfl⟩⟩
 refine hf.len ?_
 refine Bi.gtr ?_ ?_<;>intro hl1<;>(repeat with_reducible refine Stp.go ?_)
 ·exact .inl ⟨_,rfl,⟨D,λ_ h=>h,E⟩,.inr (.inl ⟨hc,by omega,rfl⟩)⟩
 have hl1:fs.length≤1024:=by omega
 (intro J6 hJ6)
 have bad:∀w_ D',(∀x∈D,x∈D')→¬(0≤clock∧Good fs next)→Hs w0 F w_ (Pool D'::l)→RsQ w0 F l D gs fs clock next (.tuple #[np,i64 2]) w_:=
  λw_ D' hD hb E=>.inl ⟨2,rfl,⟨D',hD,E⟩,.inr (.inr ⟨hc,hl1,hb,rfl⟩)⟩
 have fin6:∀b w_,(b=true→clock<0∨next<1∨fs.length=0)→(b=false→0≤clock∧1≤next∧0<fs.length)→Hs w0 F w_ (Pool D::l)→J6 [.bool b] w_:=by
  intro b w_ hb1 hb2 E
  repeat with_reducible (apply hJ6;intro u_)
  cases b with
  |true=>
   repeat with_reducible refine Stp.go ?_
   refine bad _ D (λ_ h=>h) (λh=>?_) E
   have hn:=hb1 rfl
   obtain⟨r1,r2,-⟩:=good_ref h.2
   obtain⟨f,hf0,-⟩:=r1.first
   have:=(List.getElem?_eq_some_iff.1 hf0).1
   omega
  |false=>
   obtain⟨hc0,hn1,hpos⟩:=hb2 rfl
   repeat with_reducible refine Stp.go ?_
   obtain⟨c1,c2,c3,c4⟩:=checkG_zero hc
   refine(empty_ok hg c4 c1 c2 E).mono ?_
   clear E
   rintro r w_ ⟨t,fm,gm,om,D0,gr,rfl,hD0,hgt,E⟩
   repeat with_reducible first|refine Stp.go ?_|(refine StpW.go E ?_;clear E;intro w_ E)
   refine MkM.pt (kt:=.str) E ?_
   clear E
   intro dm w_ hdm E
   refine hf.len ?_
   refine⟨λl1 w1=>∃(i:Nat) (D':List Row) (rv:Value) (ps:List PN) (fl:List (Int×Nat)) (dl:List (BA×Nat)),l1=[i64 i]∧i≤fs.length∧(∀x∈D,x∈D')∧GTie D' gr gs∧LpS t fm gm om next clock gr gs fs i D' rv ps fl dl∧
    Hs w0 F w1 (tR t fm gm om next clock rv::mp fm (.int .i64) (encM i64 ptr fl)::mp gm .str (encM Value.string id gr)::mp om (.int .i64) []::NT ps::DT []::mp dm .str (encM Value.string ptr dl)::Pool D'::l),
    λl1 _=>match l1 with|[.int _ i]=>fs.length-i.toNat|_=>0,⟨0,D0,np,[],[],[],rfl,Nat.zero_le _,hD0,hgt,.inl ⟨rfl,rfl,rfl,rfl,rfl⟩,?_⟩,?_⟩
   ·have E:=Hs.starNil (Hs.starNil E)
    (replace E:=(((((((E.bIx 2).bIx 2).bIx 2).bIx 6).bIx 6).bIx 6).bIx 6))
    exact E
   clear E
   rintro t48 u w_ ⟨i,D',rv,ps,fl,dl,h1,hi,hD',hgt',hL,E⟩
   cases h1
   refine Bi.lss ?_ ?_<;>intro hlt<;>(repeat with_reducible refine Stp.go ?_)
   ·have hx:fs[i]? =some (fs[i]'(by omega)):=List.getElem?_eq_getElem (by omega)
    obtain⟨f,hfe⟩:∃f,fs[i]'(by omega)=f:=⟨_,rfl⟩
    rw[hfe]at hx
    clear hfe
    have hfw:=RdS.weaken (l':=tR t fm gm om next clock rv::mp fm (.int .i64) (encM i64 ptr fl)::mp gm .str (encM Value.string id gr)::mp om (.int .i64) []::NT ps::DT []::mp dm .str (encM Value.string ptr dl)::Pool D'::l) hf λ_ E=>E.drop (List.sublist_append_right [_,_,_,_,_,_,_,_] l)
    refine hfw.ix (by omega) (by omega) (by omega) ?_
    intro a ha
    refine ha.lda E (m:=12) (ds:=f.cs) (by rw[Int.toNat_natCast];exact fl_at hx) rfl (by omega) ?_
    clear ha hfw
    repeat with_reducible (refine StpA.go E ?_;clear E;intro b_ w_ hb_ E)
    (revert b_;intro fb hbfb E)
    refine StA.all (vs:=f.cs) E rfl rfl (fl_scal f) ?_
    clear E
    intro w_ E
    repeat with_reducible first|refine Stp.go ?_|refine StpE.go E ?_
    refine CvS.sl E u_string u_sl_uint8 u_uint8 ?_
    clear E
    intro dv w_ E
    repeat with_reducible first|refine StpE.go E ?_|(refine StpA.go E ?_;clear E;intro b_ w_ hb_ E)
    (revert b_;intro nb hbnb E)
    (intro J41 hJ41)
    (replace E:=((E.bIx 10).bIx 2))
    replace E:=Hs.pool Ty.uint8 E
    (replace E:=((((((((((E.bIx 0).bIx 9).bIx 9).bIx 9).bIx 9).bIx 9).bIx 9).bIx 9).bIx 9).bIx 9))
    obtain⟨D1,hD1⟩:∃D1:List Row,D1=⟨dv,Ty.uint8,bts f.data⟩::D':=⟨_,rfl⟩
    rw[← hD1]at E
    have hsub:∀x∈D',x∈D1:=λx h=>by rw[hD1];exact List.mem_cons_of_mem _ h
    have hsub0:∀x∈D,x∈D1:=λx h=>hsub x (hD' x h)
    have hdv:Rdy D1 Ty.uint8 dv (bts f.data):=.inr (by rw[hD1];exact List.mem_cons_self)
    replace hL:=lps_mono hL hsub
    replace hgt':=gtie_mono hgt' hsub
    have hG:=λh=>lps_good hL hx h
    clear hD1
    have fin41:∀b w_,(b=true→¬Good fs next)→(b=false→formF f next∧getL fl f.dir.path=none)→
      Hs w0 F w_ (nd nb ⟨f.dir.kind,f.dir.vers,f.dir.path,f.dir.mode,f.dir.time,f.dir.len,f.dir.name,f.dir.owner,f.dir.group,f.dir.last,dv,none,none,false⟩::pt fb (oc f.cs Ty.t12)::tR t fm gm om next clock rv::mp fm (.int .i64) (encM i64 ptr fl)::mp gm .str (encM Value.string id gr)::mp om (.int .i64) []::NT ps::DT []::mp dm .str (encM Value.string ptr dl)::Pool D1::l)→J41 [.bool b] w_:=by
     intro b w_ hb1 hb2 E
     repeat with_reducible (apply hJ41;intro u_)
     clear hJ41
     cases b with
     |true=>(repeat with_reducible refine Stp.go ?_);exact bad _ D1 hsub0 (λh=>hb1 rfl h.2) (E.drop (List.sublist_append_right [_,_,_,_,_,_,_,_,_] (Pool D1::l)))
     |false=>
      obtain⟨hF,hnew⟩:=hb2 rfl
      repeat with_reducible first|refine Stp.go ?_|refine StpE.go E ?_
      refine(is_ok E).mono ?_
      clear E
      rintro r w_ E
      (intro J50 hJ50)
      have fin50:∀(kb:Nat) w_,Hs w0 F w_ (nd nb (⟨mkNd f 0,nb,f.dir.len,dv,kb,[],none⟩:PN).mn::KM ⟨mkNd f 0,nb,f.dir.len,dv,kb,[],none⟩::pt fb (oc f.cs Ty.t12)::tR t fm gm om next clock rv::mp fm (.int .i64) (encM i64 ptr fl)::mp gm .str (encM Value.string id gr)::mp om (.int .i64) []::NT ps::DT []::mp dm .str (encM Value.string ptr dl)::Pool D1::l)→J50 [] w_:=by
       intro kb w_ E
       repeat with_reducible (apply hJ50;intro u_)
       clear hJ50
       (intro J53 hJ53)
       have fin53:∀(rt:Nat) (ps':List PN) (q:PN) (S':Tr) (β':Int→Nat) w_,q∈ps'→q.blk=nb→q.f.path=f.dir.path→Lp D1 (xT t fm gm om next clock gr rt ps' (putL fl f.dir.path nb)) gs fs clock next (i+1) S' β'→DK S' ps' f.dir.path dl→
         Hs w0 F w_ (tR t fm gm om next clock (ptr rt)::mp fm (.int .i64) (encM i64 ptr fl)::mp gm .str (encM Value.string id gr)::mp om (.int .i64) []::NT ps'::DT []::mp dm .str (encM Value.string ptr dl)::pt fb (oc f.cs Ty.t12)::Pool D1::l)→J53 [] w_:=by
        intro rt ps' q S' β' w_ hq hqb hqp hL' hdk' E
        repeat with_reducible (apply hJ53;intro u_)
        clear hJ53
        have ldn:∀{w:World} {l:List As} {o:Nat} {v:Value} {k:Value→Prop},Hs w0 F w l→NT ps'∈l→q.mn.C[o]? =some v→k v→Ld (.pointer (some ⟨nb,o,none⟩)) w k:=by
         rw[← hqb]
         exact λE hm hv hk=>Ld.nt E hm hq hv hk
        have dirn:∀{w:World} {l:List As},NT ps'∈l→Hs w0 F w l→Ca PP Fn.f18 #[ptr nb] w λr w'=>r=.bool q.f.dir∧Hs w0 F w' l:=by
         rw[← hqb]
         exact λhm E=>isDirN hq hm E
        have pathn:∀{w:World} {l:List As},NT ps'∈l→Hs w0 F w l→Ca PP Fn.f57 #[ptr nb] w λr w'=>r=str (S'.pathS q.f)∧Hs w0 F w' l:=by
         rw[← hqb]
         exact λhm E=>path_ok (X:=xT t fm gm om next clock gr rt ps' (putL fl f.dir.path q.blk)) (by rw[hqb];exact hL'.tie) hL'.inv hq hm E
        (intro J56 hJ56)
        have fin56:∀(dl':List (BA×Nat)) w_,DK S' ps' (-1) dl'→
          Hs w0 F w_ (tR t fm gm om next clock (ptr rt)::mp fm (.int .i64) (encM i64 ptr fl)::mp gm .str (encM Value.string id gr)::mp om (.int .i64) []::NT ps'::DT []::mp dm .str (encM Value.string ptr dl')::pt fb (oc f.cs Ty.t12)::Pool D1::l)→J56 [] w_:=by
         intro dl' w_ hdk2 E
         repeat with_reducible first|refine Stp.go ?_|refine StpE.go E ?_|(refine StpW.go E ?_;clear E;intro w_ E)|(apply hJ56;intro u_)
         clear hJ56
         refine ldn E (by simp) (v:=i64 q.f.path) rfl ?_
         skip
         refine Mu.by E u_mfiles k_i64 rfl ?_
         clear E
         intro w_ E
         have he:aput (encM i64 ptr fl) (i64 q.f.path) (ptr nb)=encM i64 ptr (putL fl q.f.path nb):=aput_enc (keyI .i64) _ _ _
         rw[he,hqp]at E
         skip
         refine Bi.add (by omega) ?_
         refine⟨⟨i+1,D1,ptr rt,ps',putL fl f.dir.path nb,dl',by simp,by omega,hsub0,hgt',.inr ⟨by omega,rt,S',β',rfl,hL',hdk2⟩,?_⟩,by simp only[];omega⟩
         exact(E.bIx 7).tl
        clear hJ56
        refine(dirn (by simp) E).mono ?_
        clear E
        rintro r w_ ⟨rfl,E⟩
        cases hqd:q.f.dir with
        |false=>
         repeat with_reducible refine Stp.go ?_
         exact fin56 dl _ (DK.skip hL'.tie hL'.inv hq (by rw[hqp];exact hdk') hqd) E
        |true=>
         repeat with_reducible refine Stp.go ?_
         refine(pathn (by simp) E).mono ?_
         clear E
         rintro r w_ ⟨rfl,E⟩
         have hqS:=hL'.tie.mem.2 ⟨q,hq,rfl⟩
         have hps:=path_size hL'.inv hqS
         skip
         refine(TrimSuffix_ok (p:=sep) (by omega) E).mono ?_
         clear E
         rintro r w_ ⟨rfl,E⟩
         have hts:(trimT (S'.pathS q.f) sep).size≤100000:=by
          have h1:=congrArg ByteArray.size (key_trim hL'.inv hqS)
          rw[ByteArray.size_append]at h1
          unfold keyS at h1
          split at h1
          ·omega
          ·rw[ByteArray.size_append]at h1;omega
         skip
         refine Bi.sadd (t:=sep) (by have:ByteArray.size sep=1:=rfl;omega) ?_
         rw[key_trim hL'.inv hqS]
         skip
         refine Mu.by E u_mkids k_str rfl ?_
         clear E
         intro w_ E
         have he:aput (encM Value.string ptr dl) (str (keyS (S'.pathS q.f))) (ptr nb)=encM Value.string ptr (putL dl (keyS (S'.pathS q.f)) nb):=aput_enc Sh.keyS _ _ _
         rw[he]at E
         skip
         refine fin56 (putL dl (keyS (S'.pathS q.f)) nb) _ (by rw[← hqb];exact DK.add hL'.tie hL'.inv hq (by rw[hqp];exact hdk') hqd) E
       clear hJ53
       refine Bi.eql ?_ ?_<;>intro hi0<;>(repeat with_reducible first|refine Stp.go ?_|refine StpE.go E ?_|(refine StpW.go E ?_;clear E;intro w_ E))
       ·obtain rfl:i=0:=by omega
        (intro J79 hJ79)
        have fin79:∀b w_,(b=true→¬Good fs next)→(b=false→f.dir.name=emp∧f.dir.path=0∧isD f.dir.mode=true)→Hs w0 F w_ (nd nb (⟨mkNd f 0,nb,f.dir.len,dv,kb,[],none⟩:PN).mn::KM ⟨mkNd f 0,nb,f.dir.len,dv,kb,[],none⟩::pt fb (oc f.cs Ty.t12)::tR t fm gm om next clock rv::mp fm (.int .i64) (encM i64 ptr fl)::mp gm .str (encM Value.string id gr)::mp om (.int .i64) []::NT ps::DT []::mp dm .str (encM Value.string ptr dl)::Pool D1::l)→J79 [.bool b] w_:=by
         intro b w_ hb1 hb2 E
         repeat with_reducible (apply hJ79;intro u_)
         clear hJ79
         cases b with
         |true=>(repeat with_reducible refine Stp.go ?_);exact bad _ D1 hsub0 (λh=>hb1 rfl h.2) (E.drop (List.sublist_append_right [_,_,_,_,_,_,_,_,_,_] (Pool D1::l)))
         |false=>
          obtain⟨hn,hp,hd⟩:=hb2 rfl
          rcases hL with⟨-,rfl,rfl,rfl,rfl⟩|⟨h,-⟩
          rotate_left
          ·omega
          repeat with_reducible first|refine Stp.go ?_|(refine StpW.go E ?_;clear E;intro w_ E)
          obtain⟨S',β',hL',hdk'⟩:=lps_zero (t:=t) (fm:=fm) (gm:=gm) (om:=om) (nb:=nb) (kb:=kb) hx hF hc0 hn hp hd hgt' hdv
          refine fin53 nb _ ⟨mkNd f 0,nb,f.dir.len,dv,kb,[],none⟩ S' β' _ (List.mem_singleton.2 rfl) rfl rfl hL' hdk' ?_
          (replace E:=(((E.bIx 7).bIx 2).bIx 2))
          replace E:=Hs.closeN (⟨mkNd f 0,nb,f.dir.len,dv,kb,[],none⟩:PN) (rs:=[]) E
          (replace E:=((((((((E.bIx 1).bIx 7).bIx 7).bIx 3).bIx 7).bIx 7).bIx 7).bIx 7))
          exact E
        clear hJ79
        refine(isDir_ok E).mono ?_
        clear E
        rintro r w_ ⟨rfl,E⟩
        have hmd:(⟨mkNd f 0,nb,f.dir.len,dv,kb,[],none⟩:PN).mn.mode=f.dir.mode:=rfl
        rw[hmd]
        cases hd:isD f.dir.mode with
        |false=>
         repeat with_reducible refine Stp.go ?_
         exact fin79 true _ (λ_ h=>by have:=((hG h).2.2.1 rfl).2.2;rw[hd]at this;cases this) (λh=>by cases h) E
        |true=>
         repeat with_reducible first|refine Stp.go ?_|refine StpE.go E ?_
         refine Bi.sneq ?_ ?_<;>intro hn<;>(repeat with_reducible first|refine Stp.go ?_|refine StpE.go E ?_)
         ·exact fin79 true _ (λ_ h=>hn ((hG h).2.2.1 rfl).1) (λh=>by cases h) E
         refine Bi.neq ?_ ?_<;>intro hp<;>(repeat with_reducible refine Stp.go ?_)
         ·exact fin79 true _ (λ_ h=>hp ((hG h).2.2.1 rfl).2.1) (λh=>by cases h) E
         ·exact fin79 false _ (λh=>by cases h) (λ_=>⟨hn,by omega,hd⟩) E
       ·rcases hL with⟨h,-⟩|⟨hi1,rt,S,β,rfl,hL,hdk⟩
        ·omega
        refine(TrimSuffix_ok (hfs f (List.mem_of_getElem? hx)).1 E).mono ?_
        clear E
        rintro r w_ ⟨rfl,E⟩
        refine Lk.one E (by (first|assumption|exact FPt.mem|exact FMp.mem|exact FSl.mem|(repeat(first|assumption|with_reducible exact List.mem_cons_self|refine List.mem_cons_of_mem _ ?_)))) u_mkids k_str z_p_node rfl ?_
        rw[aget_enc Sh.keyS]
        cases hq:getL dl (trimT f.path f.dir.name)with
        |none=>
         simp only[Option.map_none,Option.getD_none]
         repeat with_reducible first|refine Stp.go ?_|(refine StpW.go E ?_;clear E;intro w_ E)
         (intro J154 hJ154)
         repeat with_reducible first|refine Stp.go ?_|refine StpE.go E ?_|(refine StpW.go E ?_;clear E;intro w_ E)
         refine Eq.et u_p_node rfl ?_
         repeat with_reducible first|refine Stp.go ?_|(apply hJ154;intro u_)
         refine bad _ D1 hsub0 (λh=>?_) (E.drop (List.sublist_append_right [_,_,_,_,_,_,_,_,_,_] (Pool D1::l)))
         obtain⟨-,u,hu,h1,h2,h3⟩:=(hG h.2).2.2.2 (by omega)
         rw[hq]at h2
         cases h2
        |some b=>
         obtain⟨u,hu,hud,hup1,huk,rfl⟩:=(hdk _ _).1 hq
         have same:∀{v:PN},v∈ps→getL dl (trimT f.path f.dir.name)=some v.blk→v=u:=λ{v} hv h=>by
          rw[hq]at h
          exact Hs.nodupN' E (by simp) _ hv _ hu (Option.some.inj h).symm
         simp only[Option.map_some,Option.getD_some]
         repeat with_reducible first|refine Stp.go ?_|(refine StpW.go E ?_;clear E;intro w_ E)
         (intro J154 hJ154)
         have fin154:∀b w_,(b=true→¬Good fs next)→(b=false→goodName f.dir.name=true∧getL u.kl f.dir.name=none)→
           Hs w0 F w_ (nd nb (⟨mkNd f u.f.path,nb,f.dir.len,dv,kb,[],some u.blk⟩:PN).mn::KM ⟨mkNd f u.f.path,nb,f.dir.len,dv,kb,[],some u.blk⟩::pt fb (oc f.cs Ty.t12)::tR t fm gm om next clock (ptr rt)::mp fm (.int .i64) (encM i64 ptr fl)::mp gm .str (encM Value.string id gr)::mp om (.int .i64) []::NT ps::DT []::mp dm .str (encM Value.string ptr dl)::Pool D1::l)→J154 [.bool b] w_:=by
          intro b w_ hb1 hb2 E
          repeat with_reducible (apply hJ154;intro u_)
          clear hJ154
          cases b with
          |true=>(repeat with_reducible refine Stp.go ?_);exact bad _ D1 hsub0 (λh=>hb1 rfl h.2) (E.drop (List.sublist_append_right [_,_,_,_,_,_,_,_,_,_] (Pool D1::l)))
          |false=>
           obtain⟨hgn,hkid⟩:=hb2 rfl
           repeat with_reducible first|refine Stp.go ?_|refine StpE.go E ?_|(refine StpW.go E ?_;clear E;intro w_ E)
           change Nc (ptr u.blk) _
           repeat with_reducible refine Stp.go ?_
           refine Ld.nt E (by simp) hu kids_val ?_
           rw[if_pos hud]
           repeat with_reducible first|refine Stp.go ?_|refine StpE.go E ?_
           obtain⟨rs,hpm⟩:=split_perm hu
           have hnd:=Hs.nodupN (E.bIx 7)
           replace E:=Hs.openN (E.bIx 7) hpm
           replace E:=Hs.openK hud (E.bIx 1)
           have E2:Hs w0 F _ (mp u.kb .str (encM Value.string ptr u.kl)::_):=E
           clear E
           refine Mu.by E2 u_mkids k_str rfl ?_
           clear E2
           intro w_ E
           have he:aput (encM Value.string ptr u.kl) (str f.dir.name) (ptr nb)=encM Value.string ptr (putL u.kl f.dir.name nb):=aput_enc Sh.keyS _ _ _
           rw[he]at E
           skip
           obtain⟨S',β',hL',hdk'⟩:=lps_step (nb:=nb) (kb:=kb) hL hdk hnd hi1 hx (by omega) hF hnew hgn hu hud huk hkid hdv
           refine fin53 rt _ ⟨mkNd f u.f.path,nb,f.dir.len,dv,kb,[],some u.blk⟩ S' β' _ List.mem_cons_self rfl rfl hL' hdk' ?_
           obtain⟨u2,hu2⟩:∃u2:PN,u2={u with kl:=putL u.kl f.dir.name nb}:=⟨_,rfl⟩
           have E2:=Hs.closeK (n:={u with kl:=putL u.kl f.dir.name nb}) hud E
           clear E
           have E:=E2
           clear E2
           rw[← hu2]at E
           (replace E:=(((E.bIx 2).bIx 1).bIx 2))
           replace E:=Hs.closeN u2 (by rw[hu2]at E ⊢;exact E)
           (replace E:=(((E.bIx 0).bIx 2).bIx 2))
           replace E:=Hs.closeN (⟨mkNd f u.f.path,nb,f.dir.len,dv,kb,[],some u.blk⟩:PN) E
           have hpm2:(updB ps u.blk λm=>{m with kl:=putL m.kl f.dir.name nb}).Perm (u2::rs):=by rw[hu2];exact updB_perm (g:=λm:PN=>{m with kl:=putL m.kl f.dir.name nb}) hnd hpm
           replace E:=Hs.permN E (hpm2.symm.cons _)
           (replace E:=((((((((E.bIx 1).bIx 7).bIx 7).bIx 3).bIx 7).bIx 7).bIx 7).bIx 7))
           exact E
         clear hJ154
         have E2:Hs w0 F _ (nd nb (⟨mkNd f u.f.path,nb,f.dir.len,dv,kb,[],some u.blk⟩:PN).mn::KM ⟨mkNd f u.f.path,nb,f.dir.len,dv,kb,[],some u.blk⟩::pt fb (oc f.cs Ty.t12)::tR t fm gm om next clock (ptr rt)::mp fm (.int .i64) (encM i64 ptr fl)::mp gm .str (encM Value.string id gr)::mp om (.int .i64) []::NT ps::DT []::mp dm .str (encM Value.string ptr dl)::Pool D1::l):=E
         clear E
         have E:=E2
         clear E2
         repeat with_reducible first|refine Stp.go ?_|refine StpE.go E ?_|(refine StpW.go E ?_;clear E;intro w_ E)
         refine Eq.ef u_p_node rfl ?_
         repeat with_reducible first|refine Stp.go ?_|refine StpE.go E ?_
         refine(Valid_ok (hfs f (List.mem_of_getElem? hx)).2.1).mono ?_
         rintro r w' ⟨rfl,rfl⟩
         cases hgn:goodName f.dir.name with
         |false=>
          repeat with_reducible refine Stp.go ?_
          exact fin154 true _ (λ_ h=>by have:=((hG h).2.2.2 (by omega)).1;rw[hgn]at this;cases this) (λh=>by cases h) E
         |true=>
          repeat with_reducible first|refine Stp.go ?_|refine StpE.go E ?_
          change Nc (ptr u.blk) _
          repeat with_reducible refine Stp.go ?_
          refine Ld.nt E (by simp) hu kids_val ?_
          rw[if_pos hud]
          repeat with_reducible first|refine Stp.go ?_|refine StpE.go E ?_
          obtain⟨l',hml,El⟩:=mapAtN (w0:=w0) (F:=F) hu hud (by simp) E
          refine Lk.one El hml u_mkids k_str z_p_node rfl ?_
          rw[aget_enc Sh.keyS]
          cases hk:getL u.kl f.dir.name with
          |none=>
           simp only[Option.map_none,Option.getD_none]
           repeat with_reducible refine Stp.go ?_
           refine Eq.nf u_p_node rfl ?_
           repeat with_reducible refine Stp.go ?_
           exact fin154 false _ (λh=>by cases h) (λ_=>⟨hgn,hk⟩) E
          |some k=>
           simp only[Option.map_some,Option.getD_some]
           repeat with_reducible refine Stp.go ?_
           refine Eq.nt u_p_node rfl ?_
           repeat with_reducible refine Stp.go ?_
           refine fin154 true _ (λ_ h=>?_) (λh=>by cases h) E
           obtain⟨-,v,hv,h1,h2,h3⟩:=(hG h).2.2.2 (by omega)
           rw[same hv h2,hk]at h3
           cases h3
      clear hJ50
      refine(isDir_ok E).mono ?_
      clear E
      rintro r w_ ⟨rfl,E⟩
      cases hd:isD f.dir.mode with
      |true=>
       repeat with_reducible refine Stp.go ?_
       refine MkM.pt (kt:=.str) E ?_
       clear E
       intro kb w_ hkb E
       repeat with_reducible first|refine Stp.go ?_|(refine StpW.go E ?_;clear E;intro w_ E)
       replace E:=Hs.star (ls:=[mp kb .str []]) E
       (replace E:=((E.bIx 0).bIx 1))
       refine fin50 kb _ ?_
       unfold KM
       have hd':(⟨mkNd f 0,nb,f.dir.len,dv,kb,[],none⟩:PN).f.dir=true:=hd
       rw[if_pos hd']
       show Hs w0 F _ (nd nb ⟨_,_,_,_,_,_,_,_,_,_,_,if isD f.dir.mode=true then some kb else none,_,_⟩::_)
       rw[if_pos hd]
       exact E
      |false=>
       repeat with_reducible refine Stp.go ?_
       replace E:=Hs.starNil E
       (replace E:=((E.bIx 0).bIx 1))
       refine fin50 0 _ ?_
       unfold KM
       have hd':¬(⟨mkNd f 0,nb,f.dir.len,dv,0,[],none⟩:PN).f.dir=true:=by show ¬isD f.dir.mode=true;rw[hd];simp
       rw[if_neg hd']
       show Hs w0 F _ (nd nb ⟨_,_,_,_,_,_,_,_,_,_,_,if isD f.dir.mode=true then some 0 else none,_,_⟩::_)
       rw[if_neg hd']
       exact E
    clear hJ41
    repeat with_reducible first|refine StpE.go E ?_|(refine StpW.go E ?_;clear E;intro w_ E)
    refine(formed_ok (hfs f (List.mem_of_getElem? hx)).2.2.1 (hfs f (List.mem_of_getElem? hx)).2.2.2 E).mono ?_
    clear E
    rintro r w_ ⟨⟨b,rfl,hb⟩,E⟩
    cases b with
    |false=>
     repeat with_reducible refine Stp.go ?_
     exact fin41 true _ (λ_ h=>by have:=hb.2 (hG h).1;cases this) (λh=>by cases h) E
    |true=>
     repeat with_reducible first|refine Stp.go ?_|refine StpE.go E ?_
     refine Lk.one E (by (first|assumption|exact FPt.mem|exact FMp.mem|exact FSl.mem|(repeat(first|assumption|with_reducible exact List.mem_cons_self|refine List.mem_cons_of_mem _ ?_)))) u_mfiles k_i64 z_p_node rfl ?_
     rw[aget_enc (keyI .i64)]
     cases hq:getL fl f.dir.path with
     |none=>
      simp only[Option.map_none,Option.getD_none]
      repeat with_reducible refine Stp.go ?_
      refine Eq.nf u_p_node rfl ?_
      repeat with_reducible refine Stp.go ?_
      exact fin41 false _ (λh=>by cases h) (λ_=>⟨hb.1 rfl,hq⟩) E
     |some k=>
      simp only[Option.map_some,Option.getD_some]
      repeat with_reducible refine Stp.go ?_
      refine Eq.nt u_p_node rfl ?_
      repeat with_reducible refine Stp.go ?_
      exact fin41 true _ (λ_ h=>by have:=(hG h).2.1;rw[hq]at this;cases this) (λh=>by cases h) E
   ·obtain rfl:i=fs.length:=by omega
    rcases hL with⟨h,-⟩|⟨hi1,rt,S,β,rfl,hL,hdk⟩
    ·omega
    have E2:=Hs.closeT (xT t fm gm om next clock gr rt ps fl) E
    clear E
    have E:=E2
    clear E2
    (replace E:=(((E.bIx 1).bIx 2).bIx 2))
    refine(Files_ok hL.tie hL.inv E).mono ?_
    clear E
    intro fv w_ E
    have hfl2:=files_len hL.inv
    have r1:=RdS.sl (T:=Ty.t12) (sz:=12) (v:=fv) (xs:=fcs S.files) (by simp) (by omega) E
    rw[fcs_len,Nat.mul_div_cancel _ (by omega)]at r1
    refine(eqFiles_ok (by omega) E r1 (hf.weaken λ_ E=>E.drop (List.sublist_append_right [_,_,_,_] l))).mono ?_
    clear E
    rintro r w_ ⟨b,rfl,hb,E⟩
    cases b with
    |false=>
     repeat with_reducible refine Stp.go ?_
     refine bad _ D' hD' (λh=>?_) ?_
     ·have:=hb.2 (sofar_end hL.inv hL.sf h.2)
      cases this
     ·(replace E:=((((E.bIx 3).bIx 2).bIx 2).bIx 3))
      exact E.drop (List.Sublist.cons_cons _ (List.sublist_append_right [_,_,_] l))
    |true=>
     repeat with_reducible refine Stp.go ?_
     refine .inr ⟨hc,hl1,hc0,D',_,β,S,rfl,hD',hL.tie,hL.inv,hL.hs,hL.gs,hL.ck,hL.nx,hb.1 rfl,?_⟩
     (replace E:=((((E.bIx 3).bIx 1).bIx 3).bIx 3))
     exact E.drop (List.Sublist.cons_cons _ (List.Sublist.cons_cons _ (List.sublist_append_right [_,_] l)))
 clear hJ6
 skip
 refine Bi.lss ?_ ?_<;>intro k1<;>(repeat with_reducible refine Stp.go ?_)
 ·exact fin6 true _ (λ_=>.inl k1) (λh=>by cases h) E
 refine Bi.lss ?_ ?_<;>intro k2<;>(repeat with_reducible refine Stp.go ?_)
 ·exact fin6 true _ (λ_=>.inr (.inl k2)) (λh=>by cases h) E
 refine hf.len ?_
 repeat with_reducible refine Stp.go ?_
 refine Bi.eql ?_ ?_<;>intro k3<;>(repeat with_reducible refine Stp.go ?_)
 ·exact fin6 true _ (λ_=>.inr (.inr (by omega))) (λh=>by cases h) E
 ·exact fin6 false _ (λh=>by cases h) (λ_=>⟨by omega,by omega,by omega⟩) E
end Go.Proofs.YthapmhhihfedcaaGreatDoor