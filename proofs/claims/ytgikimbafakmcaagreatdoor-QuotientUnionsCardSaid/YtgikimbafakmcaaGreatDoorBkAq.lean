/-
  Lemmas.
-/
import Derived.Test.YtgikimbafakmcaaGreatDoorBkP
import Derived.Test.YtgikimbafakmcaaGreatDoorGLentS
namespace Go.Proofs.YtgikimbafakmcaaGreatDoor
open Go.RowKit Pl
open Lib (hid)
set_option maxRecDepth 100000 in
set_option maxHeartbeats 16000000 in
theorem apartQ_any {w0 w : World} {bb : Nat} {I B S E N W : KS} {D A : List Rw} (h : Rws w0 w (bkRows bb (bkL I B S E N W) D)) (hI : FlOk 3 1 encI I) (hB : FlOk 4 1 encB B) (hS : FlOk 129 2 encS S) (hE : FlOk 57 3 encE E)
    (hN : NeOk 3 58 1 encI A N) (hW : NeOk 129 113 2 encS A W) (hA : ∀ r ∈ A, r ∈ bkRows bb (bkL I B S E N W) D) :
    Calls Tryz.prog 12 #[.pointer (some ⟨bb, 0, none⟩)] w fun e w' => e = .returned (.bool true) /\ Below w0.heap.size w0 w' /\ ∀ r ∈ D, w'.ownsRow w0.heap.size r.T r.k r.v r.n r.xs := by
 have HR := hid h
 have HI := hid hI; have HB := hid hB; have HS := hid hS; have HE := hid hE; have HN := hid hN; have HW := hid hW; have HA := hid hA
 clear h hI hB hS hE hN hW hA
 go_enter Tryz.func12, Tryz.ntmps12
 go_wp2_with fail
 refine (stillI_bk HR.out rfl HI.out).mono ?_
 rintro e u0 ⟨rfl, m0, hw⟩
 have hr := HR.out.drewN m0
 rw [<- hw] at hr
 replace HR := hid hr
 clear hw hr
 go_wp2_with fail
 refine (stillTokens_nil (HR.out.bkCell (j := 1) (X := KS.zero.kd _) rfl).1).mono ?_
 rintro e w1 ⟨rfl, rfl⟩
 go_wp2_with fail
 refine (stillTexts_nil (HR.out.bkCell (j := 2) (X := KS.zero.kd _) rfl).1).mono ?_
 rintro e w1 ⟨rfl, rfl⟩
 go_wp2_with fail
 refine (stillB_bk HR.out rfl HB.out).mono ?_
 rintro e u3 ⟨rfl, m3, hw⟩
 have hr := HR.out.drewN m3
 rw [<- hw] at hr
 replace HR := hid hr
 clear hw hr
 go_wp2_with fail
 refine (stillS_bk HR.out rfl HS.out).mono ?_
 rintro e u4 ⟨rfl, m4, hw⟩
 have hr := HR.out.drewN m4
 rw [<- hw] at hr
 replace HR := hid hr
 clear hw hr
 go_wp2_with fail
 refine (stillE_bk HR.out rfl HE.out).mono ?_
 rintro e u5 ⟨rfl, m5, hw⟩
 have hr := HR.out.drewN m5
 rw [<- hw] at hr
 replace HR := hid hr
 clear hw hr
 go_wp2_with fail
 refine (stillNodes_nil (HR.out.bkCell (j := 6) (X := KS.zero.kd _) rfl).1).mono ?_
 rintro e w1 ⟨rfl, rfl⟩
 go_wp2_with fail
 refine (stillPairs_nil (HR.out.bkCell (j := 7) (X := KS.zero.kd _) rfl).1).mono ?_
 rintro e w1 ⟨rfl, rfl⟩
 go_wp2_with fail
 refine (stillR_bk HR.out rfl HN.out HA.out).mono ?_
 rintro e u8 ⟨rfl, m8, hw⟩
 have hr := HR.out.drewN m8
 rw [<- hw] at hr
 replace HR := hid hr
 clear hw hr
 go_wp2_with fail
 refine (stillLines_nil (HR.out.bkCell (j := 9) (X := KS.zero.kd _) rfl).1).mono ?_
 rintro e w1 ⟨rfl, rfl⟩
 go_wp2_with fail
 refine (stillW_bk HR.out rfl HW.out HA.out).mono ?_
 rintro e u10 ⟨rfl, m10, hw⟩
 have hr := HR.out.drewN m10
 rw [<- hw] at hr
 replace HR := hid hr
 clear hw hr
 clear HA
 go_wp2_with fail
 refine (putI_bk HR.out rfl HI.out).mono ?_
 rintro e p0 ⟨rfl, hr⟩
 replace HR := hid hr
 clear hr
 go_wp2_with fail
 refine (putTokens_nil (HR.out.bkCell (j := 1) (X := KS.zero.kd _) rfl).1).mono ?_
 rintro e w1 ⟨rfl, rfl⟩
 go_wp2_with fail
 refine (putTexts_nil (HR.out.bkCell (j := 2) (X := KS.zero.kd _) rfl).1).mono ?_
 rintro e w1 ⟨rfl, rfl⟩
 go_wp2_with fail
 refine (putB_bk HR.out rfl HB.out).mono ?_
 rintro e p3 ⟨rfl, hr⟩
 replace HR := hid hr
 clear hr
 go_wp2_with fail
 refine (putS_bk HR.out rfl HS.out).mono ?_
 rintro e p4 ⟨rfl, hr⟩
 replace HR := hid hr
 clear hr
 go_wp2_with fail
 refine (putE_bk HR.out rfl HE.out).mono ?_
 rintro e p5 ⟨rfl, hr⟩
 replace HR := hid hr
 clear hr
 go_wp2_with fail
 refine (putNodes_nil (HR.out.bkCell (j := 6) (X := KS.zero.kd _) rfl).1).mono ?_
 rintro e w1 ⟨rfl, rfl⟩
 go_wp2_with fail
 refine (putPairs_nil (HR.out.bkCell (j := 7) (X := KS.zero.kd _) rfl).1).mono ?_
 rintro e w1 ⟨rfl, rfl⟩
 go_wp2_with fail
 refine (putR_bk HR.out rfl HN.out).mono ?_
 rintro e p8 ⟨FR, NR, rfl, hr, hkR⟩
 replace HR := hid hr; have HKR := hid hkR
 clear hr hkR
 go_wp2_with fail
 refine (putLines_nil (HR.out.bkCell (j := 9) (X := KS.zero.kd _) rfl).1).mono ?_
 rintro e w1 ⟨rfl, rfl⟩
 go_wp2_with fail
 refine (putW_bk HR.out rfl HW.out).mono ?_
 rintro e p10 ⟨FW, NW, rfl, hr, hkW⟩
 replace HR := hid hr; have HKW := hid hkW
 clear hr hkW
 have HKI := hid (mkdI HI.out)
 have HKB := hid (mkdB HB.out)
 have HKS := hid (mkdS HS.out)
 have HKE := hid (mkdE HE.out)
 have HLI : Hid ((mkAll mI encI I.ks).length <= 400) := hid (by rw [mkAll_len]; exact HI.out.h4)
 obtain ⟨kI, hkI⟩ : ∃ k, k = mkAll mI encI I.ks := ⟨_, rfl⟩
 rw [<- hkI] at HKI HLI HR
 clear hkI
 have HLB : Hid ((mkAll mB encB B.ks).length <= 400) := hid (by rw [mkAll_len]; exact HB.out.h4)
 obtain ⟨kB, hkB⟩ : ∃ k, k = mkAll mB encB B.ks := ⟨_, rfl⟩
 rw [<- hkB] at HKB HLB HR
 clear hkB
 have HLS : Hid ((mkAll mS encS S.ks).length <= 400) := hid (by rw [mkAll_len]; exact HS.out.h4)
 obtain ⟨kS, hkS⟩ : ∃ k, k = mkAll mS encS S.ks := ⟨_, rfl⟩
 rw [<- hkS] at HKS HLS HR
 clear hkS
 have HLE : Hid ((mkAll mE encE E.ks).length <= 400) := hid (by rw [mkAll_len]; exact HE.out.h4)
 obtain ⟨kE, hkE⟩ : ∃ k, k = mkAll mE encE E.ks := ⟨_, rfl⟩
 rw [<- hkE] at HKE HLE HR
 clear hkE
 have HLR : Hid ((mkFin FR N.ks).length <= 400) := hid (by rw [mkFin_len]; exact HN.out.h4)
 obtain ⟨kR, hkR⟩ : ∃ k, k = mkFin FR N.ks := ⟨_, rfl⟩
 rw [<- hkR] at HKR HLR HR
 clear hkR
 have HLW : Hid ((mkFin FW W.ks).length <= 400) := hid (by rw [mkFin_len]; exact HW.out.h4)
 obtain ⟨kW, hkW⟩ : ∃ k, k = mkFin FW W.ks := ⟨_, rfl⟩
 rw [<- hkW] at HKW HLW HR
 clear hkW
 clear HI HB HS HE HN HW
 go_wp2_with fail
 refine (growI_bk (K := ⟨I.o, I.p, kI, I.ws⟩) HR.out rfl HKI.out HLI.out).mono ?_
 rintro e g0 ⟨vI, sI, GI, rfl, hsI, hokI, hr⟩
 replace HR := hid hr; have HSI := hid hsI; have HOKI := hid hokI
 clear hr hsI hokI
 have HMI := hid (List.mem_cons_self (a := (⟨58, 1, vI, kI.length, sI⟩ : Rw)) (l := NW ++ (NR ++ D)))
 go_wp2_with fail
 refine (growTokens_nil (HR.out.bkCell (j := 1) (X := KS.zero.kd _) rfl).1).mono ?_
 rintro e w1 ⟨rfl, rfl⟩
 go_wp2_with fail
 refine (growTexts_nil (HR.out.bkCell (j := 2) (X := KS.zero.kd _) rfl).1).mono ?_
 rintro e w1 ⟨rfl, rfl⟩
 go_wp2_with fail
 refine (growB_bk (K := ⟨B.o, B.p, kB, B.ws⟩) HR.out rfl HKB.out HLB.out).mono ?_
 rintro e g3 ⟨vB, sB, GB, rfl, hsB, hokB, hr⟩
 replace HMI := hid (List.mem_cons_of_mem (⟨111, 1, vB, kB.length, sB⟩ : Rw) HMI.out)
 replace HR := hid hr; have HSB := hid hsB; have HOKB := hid hokB
 clear hr hsB hokB
 have HMB := hid (List.mem_cons_self (a := (⟨111, 1, vB, kB.length, sB⟩ : Rw)) (l := (⟨58, 1, vI, kI.length, sI⟩ : Rw) :: (NW ++ (NR ++ D))))
 go_wp2_with fail
 refine (growS_bk (K := ⟨S.o, S.p, kS, S.ws⟩) HR.out rfl HKS.out HLS.out).mono ?_
 rintro e g4 ⟨vS, sS, GS, rfl, hsS, hokS, hr⟩
 replace HMI := hid (List.mem_cons_of_mem (⟨113, 1, vS, kS.length, sS⟩ : Rw) HMI.out)
 replace HMB := hid (List.mem_cons_of_mem (⟨113, 1, vS, kS.length, sS⟩ : Rw) HMB.out)
 replace HR := hid hr; have HSS := hid hsS; have HOKS := hid hokS
 clear hr hsS hokS
 have HMS := hid (List.mem_cons_self (a := (⟨113, 1, vS, kS.length, sS⟩ : Rw)) (l := (⟨111, 1, vB, kB.length, sB⟩ : Rw) :: ((⟨58, 1, vI, kI.length, sI⟩ : Rw) :: (NW ++ (NR ++ D)))))
 go_wp2_with fail
 refine (growE_bk (K := ⟨E.o, E.p, kE, E.ws⟩) HR.out rfl HKE.out HLE.out).mono ?_
 rintro e g5 ⟨vE, sE, GE, rfl, hsE, hokE, hr⟩
 replace HMI := hid (List.mem_cons_of_mem (⟨22, 1, vE, kE.length, sE⟩ : Rw) HMI.out)
 replace HMB := hid (List.mem_cons_of_mem (⟨22, 1, vE, kE.length, sE⟩ : Rw) HMB.out)
 replace HMS := hid (List.mem_cons_of_mem (⟨22, 1, vE, kE.length, sE⟩ : Rw) HMS.out)
 replace HR := hid hr; have HSE := hid hsE; have HOKE := hid hokE
 clear hr hsE hokE
 have HME := hid (List.mem_cons_self (a := (⟨22, 1, vE, kE.length, sE⟩ : Rw)) (l := (⟨113, 1, vS, kS.length, sS⟩ : Rw) :: ((⟨111, 1, vB, kB.length, sB⟩ : Rw) :: ((⟨58, 1, vI, kI.length, sI⟩ : Rw) :: (NW ++ (NR ++ D))))))
 go_wp2_with fail
 refine (growNodes_nil (HR.out.bkCell (j := 6) (X := KS.zero.kd _) rfl).1).mono ?_
 rintro e w1 ⟨rfl, rfl⟩
 go_wp2_with fail
 refine (growPairs_nil (HR.out.bkCell (j := 7) (X := KS.zero.kd _) rfl).1).mono ?_
 rintro e w1 ⟨rfl, rfl⟩
 go_wp2_with fail
 refine (growR_bk (K := ⟨N.o, N.p, kR, N.ws⟩) HR.out rfl (fun i r hr => ⟨(HKR.out i r hr).1, (HKR.out i r hr).2.1, (HKR.out i r hr).2.2.1, (HKR.out i r hr).2.2.2.2⟩) HLR.out).mono ?_
 rintro e g8 ⟨vR, sR, GR, ZR, rfl, hsR, hokR, hr⟩
 replace HMI := hid (List.mem_cons_of_mem (⟨32, 1, vR, kR.length, sR⟩ : Rw) (List.mem_append_right ZR HMI.out))
 replace HMB := hid (List.mem_cons_of_mem (⟨32, 1, vR, kR.length, sR⟩ : Rw) (List.mem_append_right ZR HMB.out))
 replace HMS := hid (List.mem_cons_of_mem (⟨32, 1, vR, kR.length, sR⟩ : Rw) (List.mem_append_right ZR HMS.out))
 replace HME := hid (List.mem_cons_of_mem (⟨32, 1, vR, kR.length, sR⟩ : Rw) (List.mem_append_right ZR HME.out))
 replace HR := hid hr; have HSR := hid hsR; have HOKR := hid hokR
 clear hr hsR hokR
 have HMR := hid (List.mem_cons_self (a := (⟨32, 1, vR, kR.length, sR⟩ : Rw)) (l := ZR ++ ((⟨22, 1, vE, kE.length, sE⟩ : Rw) :: ((⟨113, 1, vS, kS.length, sS⟩ : Rw) :: ((⟨111, 1, vB, kB.length, sB⟩ : Rw) :: ((⟨58, 1, vI, kI.length, sI⟩ : Rw) :: (NW ++ (NR ++ D))))))))
 go_wp2_with fail
 refine (growLines_nil (HR.out.bkCell (j := 9) (X := KS.zero.kd _) rfl).1).mono ?_
 rintro e w1 ⟨rfl, rfl⟩
 go_wp2_with fail
 refine (growW_bk (K := ⟨W.o, W.p, kW, W.ws⟩) HR.out rfl (fun i r hr => ⟨(HKW.out i r hr).1, (HKW.out i r hr).2.1, (HKW.out i r hr).2.2.1, (HKW.out i r hr).2.2.2.2⟩) HLW.out).mono ?_
 rintro e g10 ⟨vW, sW, GW, ZW, rfl, hsW, hokW, hr⟩
 replace HMI := hid (List.mem_cons_of_mem (⟨36, 1, vW, kW.length, sW⟩ : Rw) (List.mem_append_right ZW HMI.out))
 replace HMB := hid (List.mem_cons_of_mem (⟨36, 1, vW, kW.length, sW⟩ : Rw) (List.mem_append_right ZW HMB.out))
 replace HMS := hid (List.mem_cons_of_mem (⟨36, 1, vW, kW.length, sW⟩ : Rw) (List.mem_append_right ZW HMS.out))
 replace HME := hid (List.mem_cons_of_mem (⟨36, 1, vW, kW.length, sW⟩ : Rw) (List.mem_append_right ZW HME.out))
 replace HMR := hid (List.mem_cons_of_mem (⟨36, 1, vW, kW.length, sW⟩ : Rw) (List.mem_append_right ZW HMR.out))
 replace HR := hid hr; have HSW := hid hsW; have HOKW := hid hokW
 clear hr hsW hokW
 have HMW := hid (List.mem_cons_self (a := (⟨36, 1, vW, kW.length, sW⟩ : Rw)) (l := ZW ++ ((⟨32, 1, vR, kR.length, sR⟩ : Rw) :: (ZR ++ ((⟨22, 1, vE, kE.length, sE⟩ : Rw) :: ((⟨113, 1, vS, kS.length, sS⟩ : Rw) :: ((⟨111, 1, vB, kB.length, sB⟩ : Rw) :: ((⟨58, 1, vI, kI.length, sI⟩ : Rw) :: (NW ++ (NR ++ D))))))))))
 obtain ⟨wq, hwq⟩ : ∃ wq, wq = g10 := ⟨_, rfl⟩
 rw [<- hwq] at HR ⊢
 clear hwq
 have hbx := (HR.out.lt (i := 0) (T := 44) (k := 22) (n := 1) rfl).2
 have c0 := (HR.out.bkCell (j := 0) (X := ⟨58, I.o, I.p, kI.map (·.v), I.ws.map (·.v), GI ++ I.ws⟩) rfl).1
 obtain ⟨moI, _, mgI⟩ := HR.out.bkMem (j := 0) (X := ⟨58, I.o, I.p, kI.map (·.v), I.ws.map (·.v), GI ++ I.ws⟩) rfl
 simp only [List.length_map] at moI c0
 obtain ⟨oaI, obI, ocI, oeI, _, _⟩ := HR.out.outer moI
 rw [oeI] at c0
 have HGI := hid (fun (V : World) (hV : Below wq.heap.size wq V) => markedGI_bk (HR.out.call hV) (HR.out.bkD HMI.out) rfl HLI.out HOKI.out (fun r hr => mgI r (List.mem_append_left _ hr)) (fun i r hr => (HKI.out i r hr).2.2.1))
 have hbI := (fun (V : World) (hV : Below wq.heap.size wq V) => markedBI_bk (HR.out.call hV) moI rfl HLI.out HOKI.out (fun r hr => mgI r (List.mem_append_left _ hr)) HKI.out)
 rw [oeI] at hbI
 have HBI := hid hbI
 clear hbI oeI moI mgI
 have c1 := (HR.out.bkCell (j := 1) (X := KS.zero.kd _) rfl).1
 have c2 := (HR.out.bkCell (j := 2) (X := KS.zero.kd _) rfl).1
 have c3 := (HR.out.bkCell (j := 3) (X := ⟨111, B.o, B.p, kB.map (·.v), B.ws.map (·.v), GB ++ B.ws⟩) rfl).1
 obtain ⟨moB, _, mgB⟩ := HR.out.bkMem (j := 3) (X := ⟨111, B.o, B.p, kB.map (·.v), B.ws.map (·.v), GB ++ B.ws⟩) rfl
 simp only [List.length_map] at moB c3
 obtain ⟨oaB, obB, ocB, oeB, _, _⟩ := HR.out.outer moB
 rw [oeB] at c3
 have HGB := hid (fun (V : World) (hV : Below wq.heap.size wq V) => markedGB_bk (HR.out.call hV) (HR.out.bkD HMB.out) rfl HLB.out HOKB.out (fun r hr => mgB r (List.mem_append_left _ hr)) (fun i r hr => (HKB.out i r hr).2.2.1))
 have hbB := (fun (V : World) (hV : Below wq.heap.size wq V) => markedBB_bk (HR.out.call hV) moB rfl HLB.out HOKB.out (fun r hr => mgB r (List.mem_append_left _ hr)) HKB.out)
 rw [oeB] at hbB
 have HBB := hid hbB
 clear hbB oeB moB mgB
 have c4 := (HR.out.bkCell (j := 4) (X := ⟨113, S.o, S.p, kS.map (·.v), S.ws.map (·.v), GS ++ S.ws⟩) rfl).1
 obtain ⟨moS, _, mgS⟩ := HR.out.bkMem (j := 4) (X := ⟨113, S.o, S.p, kS.map (·.v), S.ws.map (·.v), GS ++ S.ws⟩) rfl
 simp only [List.length_map] at moS c4
 obtain ⟨oaS, obS, ocS, oeS, _, _⟩ := HR.out.outer moS
 rw [oeS] at c4
 have HGS := hid (fun (V : World) (hV : Below wq.heap.size wq V) => markedGS_bk (HR.out.call hV) (HR.out.bkD HMS.out) rfl HLS.out HOKS.out (fun r hr => mgS r (List.mem_append_left _ hr)) (fun i r hr => (HKS.out i r hr).2.2.1))
 have hbS := (fun (V : World) (hV : Below wq.heap.size wq V) => markedBS_bk (HR.out.call hV) moS rfl HLS.out HOKS.out (fun r hr => mgS r (List.mem_append_left _ hr)) HKS.out)
 rw [oeS] at hbS
 have HBS := hid hbS
 clear hbS oeS moS mgS
 have c5 := (HR.out.bkCell (j := 5) (X := ⟨22, E.o, E.p, kE.map (·.v), E.ws.map (·.v), GE ++ E.ws⟩) rfl).1
 obtain ⟨moE, _, mgE⟩ := HR.out.bkMem (j := 5) (X := ⟨22, E.o, E.p, kE.map (·.v), E.ws.map (·.v), GE ++ E.ws⟩) rfl
 simp only [List.length_map] at moE c5
 obtain ⟨oaE, obE, ocE, oeE, _, _⟩ := HR.out.outer moE
 rw [oeE] at c5
 have HGE := hid (fun (V : World) (hV : Below wq.heap.size wq V) => markedGE_bk (HR.out.call hV) (HR.out.bkD HME.out) rfl HLE.out HOKE.out (fun r hr => mgE r (List.mem_append_left _ hr)) (fun i r hr => (HKE.out i r hr).2.2.1))
 have hbE := (fun (V : World) (hV : Below wq.heap.size wq V) => markedBE_bk (HR.out.call hV) moE rfl HLE.out HOKE.out (fun r hr => mgE r (List.mem_append_left _ hr)) HKE.out)
 rw [oeE] at hbE
 have HBE := hid hbE
 clear hbE oeE moE mgE
 have c6 := (HR.out.bkCell (j := 6) (X := KS.zero.kd _) rfl).1
 have c7 := (HR.out.bkCell (j := 7) (X := KS.zero.kd _) rfl).1
 have c8 := (HR.out.bkCell (j := 8) (X := ⟨32, N.o, N.p, kR.map (·.v), N.ws.map (·.v), GR ++ N.ws⟩) rfl).1
 obtain ⟨moR, _, mgR⟩ := HR.out.bkMem (j := 8) (X := ⟨32, N.o, N.p, kR.map (·.v), N.ws.map (·.v), GR ++ N.ws⟩) rfl
 simp only [List.length_map] at moR c8
 obtain ⟨oaR, obR, ocR, oeR, _, _⟩ := HR.out.outer moR
 rw [oeR] at c8
 have hMR : ∀ r ∈ NR ++ ZR, r ∈ _ := fun r hr => HR.out.bkD (by simp only [List.mem_append] at hr; simp only [List.mem_cons, List.mem_append]; rcases hr with h | h <;> simp only [h, true_or, or_true])
 have HGR := hid (fun (V : World) (hV : Below wq.heap.size wq V) => markedGR_bk (HR.out.call hV) (HR.out.bkD HMR.out) rfl HLR.out HOKR.out (fun r hr => mgR r (List.mem_append_left _ hr)) hMR (fun i r hr => (HKR.out i r hr).2.2.1))
 have hbR := (fun (V : World) (hV : Below wq.heap.size wq V) => markedBR_bk (HR.out.call hV) moR rfl HLR.out HOKR.out (fun r hr => mgR r (List.mem_append_left _ hr)) hMR (fun i r hr => ⟨(HKR.out i r hr).1, (HKR.out i r hr).2.1, (HKR.out i r hr).2.2.1, (HKR.out i r hr).2.2.2.1, (HKR.out i r hr).2.2.2.2.mono (fun z hz => List.mem_append_left _ hz)⟩))
 rw [oeR] at hbR
 have HBR := hid hbR
 clear hbR oeR moR mgR
 have c9 := (HR.out.bkCell (j := 9) (X := KS.zero.kd _) rfl).1
 have c10 := (HR.out.bkCell (j := 10) (X := ⟨36, W.o, W.p, kW.map (·.v), W.ws.map (·.v), GW ++ W.ws⟩) rfl).1
 obtain ⟨moW, _, mgW⟩ := HR.out.bkMem (j := 10) (X := ⟨36, W.o, W.p, kW.map (·.v), W.ws.map (·.v), GW ++ W.ws⟩) rfl
 simp only [List.length_map] at moW c10
 obtain ⟨oaW, obW, ocW, oeW, _, _⟩ := HR.out.outer moW
 rw [oeW] at c10
 have hMW : ∀ r ∈ NW ++ ZW, r ∈ _ := fun r hr => HR.out.bkD (by simp only [List.mem_append] at hr; simp only [List.mem_cons, List.mem_append]; rcases hr with h | h <;> simp only [h, true_or, or_true])
 have HGW := hid (fun (V : World) (hV : Below wq.heap.size wq V) => markedGW_bk (HR.out.call hV) (HR.out.bkD HMW.out) rfl HLW.out HOKW.out (fun r hr => mgW r (List.mem_append_left _ hr)) hMW (fun i r hr => (HKW.out i r hr).2.2.1))
 have hbW := (fun (V : World) (hV : Below wq.heap.size wq V) => markedBW_bk (HR.out.call hV) moW rfl HLW.out HOKW.out (fun r hr => mgW r (List.mem_append_left _ hr)) hMW (fun i r hr => ⟨(HKW.out i r hr).1, (HKW.out i r hr).2.1, (HKW.out i r hr).2.2.1, (HKW.out i r hr).2.2.2.1, (HKW.out i r hr).2.2.2.2.mono (fun z hz => List.mem_append_left _ hz)⟩))
 rw [oeW] at hbW
 have HBW := hid hbW
 clear hbW oeW moW mgW
 have HC0 : Hid (∀ V, Below wq.heap.size wq V -> V.cell? ⟨bb, 0, none⟩ = some (.slice oaI kI.length ocI)) := hid (fun V hV => by rw [hV.cell (p := ⟨bb, 0, none⟩) hbx]; exact c0)
 have HC1 : Hid (∀ V, Below wq.heap.size wq V -> V.cell? ⟨bb, 2, none⟩ = some (.slice none 0 0)) := hid (fun V hV => by rw [hV.cell (p := ⟨bb, 2, none⟩) hbx]; exact c1)
 have HC2 : Hid (∀ V, Below wq.heap.size wq V -> V.cell? ⟨bb, 4, none⟩ = some (.slice none 0 0)) := hid (fun V hV => by rw [hV.cell (p := ⟨bb, 4, none⟩) hbx]; exact c2)
 have HC3 : Hid (∀ V, Below wq.heap.size wq V -> V.cell? ⟨bb, 6, none⟩ = some (.slice oaB kB.length ocB)) := hid (fun V hV => by rw [hV.cell (p := ⟨bb, 6, none⟩) hbx]; exact c3)
 have HC4 : Hid (∀ V, Below wq.heap.size wq V -> V.cell? ⟨bb, 8, none⟩ = some (.slice oaS kS.length ocS)) := hid (fun V hV => by rw [hV.cell (p := ⟨bb, 8, none⟩) hbx]; exact c4)
 have HC5 : Hid (∀ V, Below wq.heap.size wq V -> V.cell? ⟨bb, 10, none⟩ = some (.slice oaE kE.length ocE)) := hid (fun V hV => by rw [hV.cell (p := ⟨bb, 10, none⟩) hbx]; exact c5)
 have HC6 : Hid (∀ V, Below wq.heap.size wq V -> V.cell? ⟨bb, 12, none⟩ = some (.slice none 0 0)) := hid (fun V hV => by rw [hV.cell (p := ⟨bb, 12, none⟩) hbx]; exact c6)
 have HC7 : Hid (∀ V, Below wq.heap.size wq V -> V.cell? ⟨bb, 14, none⟩ = some (.slice none 0 0)) := hid (fun V hV => by rw [hV.cell (p := ⟨bb, 14, none⟩) hbx]; exact c7)
 have HC8 : Hid (∀ V, Below wq.heap.size wq V -> V.cell? ⟨bb, 16, none⟩ = some (.slice oaR kR.length ocR)) := hid (fun V hV => by rw [hV.cell (p := ⟨bb, 16, none⟩) hbx]; exact c8)
 have HC9 : Hid (∀ V, Below wq.heap.size wq V -> V.cell? ⟨bb, 18, none⟩ = some (.slice none 0 0)) := hid (fun V hV => by rw [hV.cell (p := ⟨bb, 18, none⟩) hbx]; exact c9)
 have HC10 : Hid (∀ V, Below wq.heap.size wq V -> V.cell? ⟨bb, 20, none⟩ = some (.slice oaW kW.length ocW)) := hid (fun V hV => by rw [hV.cell (p := ⟨bb, 20, none⟩) hbx]; exact c10)
 clear c0 c1 c2 c3 c4 c5 c6 c7 c8 c9 c10
 have HBL := hid HR.out.bel
 have HOD : Hid (∀ r ∈ D, wq.ownsRow w0.heap.size r.T r.k r.v r.n r.xs) := hid (fun r hr => HR.out.own r (List.mem_cons_of_mem _ (List.mem_append_right _ (by simp [hr]))))
 have hWq := Below.refl wq.heap.size wq
 clear hMR hMW HMI HKI HLI HOKI HSI HMB HKB HLB HOKB HSB HMS HKS HLS HOKS HSS HME HKE HLE HOKE HSE HMR HKR HLR HOKR HSR HMW HKW HLW HOKW HSW HR
 have hfld : ∀ (k : Nat) (w : World), (k = 0 ∨ k = 2 ∨ k = 4 ∨ k = 6 ∨ k = 8 ∨ k = 10 ∨ k = 12 ∨ k = 14 ∨ k = 16 ∨ k = 18 ∨ k = 20) -> (Instr.fieldAt 44 (.pointer (some ⟨bb, 0, none⟩)) k).run Tryz.prog w = .ok (.pointer (some ⟨bb, k, none⟩)) w := fun k w hk => by
   have : k = 0 ∨ k = 2 ∨ k = 4 ∨ k = 6 ∨ k = 8 ∨ k = 10 ∨ k = 12 ∨ k = 14 ∨ k = 16 ∨ k = 18 ∨ k = 20 := hk
   rcases this with rfl | rfl | rfl | rfl | rfl | rfl | rfl | rfl | rfl | rfl | rfl <;> go_simp
 go_upto_region 45 with fail
 rename_i hret
 refine at_act (fun a0 hA0 => ?_)
 have hz : a0.tmps.size = 210 := by rw [hA0]; rfl
 have hdf : a0.defers = [] := by rw [hA0]
 have s0 : a0.tmps[0]? = some (.pointer (some ⟨bb, 0, none⟩)) := by rw [hA0]; rfl
 have s3 : a0.tmps[3]? = some (vI) := by rw [hA0]; rfl
 have s4 : a0.tmps[4]? = some (.slice none 0 0) := by rw [hA0]; rfl
 have s5 : a0.tmps[5]? = some (.slice none 0 0) := by rw [hA0]; rfl
 have s6 : a0.tmps[6]? = some (vB) := by rw [hA0]; rfl
 have s7 : a0.tmps[7]? = some (vS) := by rw [hA0]; rfl
 have s8 : a0.tmps[8]? = some (vE) := by rw [hA0]; rfl
 have s9 : a0.tmps[9]? = some (.slice none 0 0) := by rw [hA0]; rfl
 have s10 : a0.tmps[10]? = some (.slice none 0 0) := by rw [hA0]; rfl
 have s11 : a0.tmps[11]? = some (vR) := by rw [hA0]; rfl
 have s12 : a0.tmps[12]? = some (.slice none 0 0) := by rw [hA0]; rfl
 have s13 : a0.tmps[13]? = some (vW) := by rw [hA0]; rfl
 clear hA0
 refine wp_region_lit ?_
 refine wpL_val (v := vI) (wanted_none rfl) rfl (by rw [run_move rfl, eval_tmp s3]) ?_
 have kp := (Kp.refl 14 a0).put (d := 91) (by decide) vI
 have r91 := put_same (a := a0) (d := 91) (by omega) vI
 have z1 := put_size a0 91 vI
 generalize a0.put (some 91) vI = a1 at *
 refine wpL_call (v := .bool true) (wanted_none rfl) rfl (by rw [run_call rfl (enters_of Tryz.func58 (by kernel_rfl) rfl), eval_tmp r91]) (HGI.out _ hWq) (fun w1 hB1 => ?_)
 replace kp := kp.put (d := 92) (by decide) (.bool true)
 have ht := put_same (a := a1) (d := 92) (by omega) (.bool true)
 generalize a1.put (some 92) (.bool true) = a2 at *
 clear r91 z1 a1
 replace hWq := Below.trans hWq (hB1.mono hWq.size)
 clear hB1
 refine and_field (n := 14) (a0 := a0) (bb := bb) (dp := 92) (d1 := 93) (d2 := 94) (d3 := 95) (d4 := 96) (d5 := 97) (d6 := 98) (d7 := 99) (s := 0) (k := 2) (off := 0) rfl rfl rfl rfl rfl rfl rfl rfl rfl rfl rfl rfl rfl rfl rfl rfl rfl rfl rfl rfl rfl (by kernel_rfl) (by decide) (by decide) (by decide) (by decide) (by decide) (by decide) (by decide) (by decide) kp (by omega) ht s0 (enters_of Tryz.func58 (by kernel_rfl) rfl) (fun w => hfld 0 w (by decide)) (by have c := HC0.out _ hWq; go_simp) (HBI.out _ hWq) (fun a2 w1 kp1 ht1 hB1 => ?_)
 clear kp ht
 have kp := kp1; have ht := ht1; clear kp1 ht1
 replace hWq := Below.trans hWq (hB1.mono hWq.size)
 clear hB1
 refine and_slot (n := 14) (a0 := a0) (dp := 99) (d1 := 100) (d2 := 101) (d3 := 102) (d4 := 103) (s := 4) (k := 9) rfl rfl rfl rfl rfl rfl rfl rfl rfl rfl rfl rfl (by kernel_rfl) (by decide) (by decide) (by decide) (by decide) (by decide) kp (by omega) ht s4 (enters_of Tryz.func59 (by kernel_rfl) rfl) (markedTokens_nil.mono (fun e w' h => ⟨h.1, h.2⟩)) (fun a2 w1 kp1 ht1 hB1 => ?_)
 clear kp ht
 have kp := kp1; have ht := ht1; clear kp1 ht1
 obtain rfl := hB1
 refine and_field (n := 14) (a0 := a0) (bb := bb) (dp := 103) (d1 := 104) (d2 := 105) (d3 := 106) (d4 := 107) (d5 := 108) (d6 := 109) (d7 := 110) (s := 0) (k := 13) (off := 2) rfl rfl rfl rfl rfl rfl rfl rfl rfl rfl rfl rfl rfl rfl rfl rfl rfl rfl rfl rfl rfl (by kernel_rfl) (by decide) (by decide) (by decide) (by decide) (by decide) (by decide) (by decide) (by decide) kp (by omega) ht s0 (enters_of Tryz.func59 (by kernel_rfl) rfl) (fun w => hfld 2 w (by decide)) (by have c := HC1.out _ hWq; go_simp) (markedTokens_nil.mono (fun e w' h => ⟨h.1, h.2⟩)) (fun a2 w1 kp1 ht1 hB1 => ?_)
 clear kp ht
 have kp := kp1; have ht := ht1; clear kp1 ht1
 obtain rfl := hB1
 refine and_slot (n := 14) (a0 := a0) (dp := 110) (d1 := 111) (d2 := 112) (d3 := 113) (d4 := 114) (s := 5) (k := 20) rfl rfl rfl rfl rfl rfl rfl rfl rfl rfl rfl rfl (by kernel_rfl) (by decide) (by decide) (by decide) (by decide) (by decide) kp (by omega) ht s5 (enters_of Tryz.func60 (by kernel_rfl) rfl) (markedTexts_nil.mono (fun e w' h => ⟨h.1, h.2⟩)) (fun a2 w1 kp1 ht1 hB1 => ?_)
 clear kp ht
 have kp := kp1; have ht := ht1; clear kp1 ht1
 obtain rfl := hB1
 refine and_field (n := 14) (a0 := a0) (bb := bb) (dp := 114) (d1 := 115) (d2 := 116) (d3 := 117) (d4 := 118) (d5 := 119) (d6 := 120) (d7 := 121) (s := 0) (k := 24) (off := 4) rfl rfl rfl rfl rfl rfl rfl rfl rfl rfl rfl rfl rfl rfl rfl rfl rfl rfl rfl rfl rfl (by kernel_rfl) (by decide) (by decide) (by decide) (by decide) (by decide) (by decide) (by decide) (by decide) kp (by omega) ht s0 (enters_of Tryz.func60 (by kernel_rfl) rfl) (fun w => hfld 4 w (by decide)) (by have c := HC2.out _ hWq; go_simp) (markedTexts_nil.mono (fun e w' h => ⟨h.1, h.2⟩)) (fun a2 w1 kp1 ht1 hB1 => ?_)
 clear kp ht
 have kp := kp1; have ht := ht1; clear kp1 ht1
 obtain rfl := hB1
 refine and_slot (n := 14) (a0 := a0) (dp := 121) (d1 := 122) (d2 := 123) (d3 := 124) (d4 := 125) (s := 6) (k := 31) rfl rfl rfl rfl rfl rfl rfl rfl rfl rfl rfl rfl (by kernel_rfl) (by decide) (by decide) (by decide) (by decide) (by decide) kp (by omega) ht s6 (enters_of Tryz.func61 (by kernel_rfl) rfl) (HGB.out _ hWq) (fun a2 w1 kp1 ht1 hB1 => ?_)
 clear kp ht
 have kp := kp1; have ht := ht1; clear kp1 ht1
 replace hWq := Below.trans hWq (hB1.mono hWq.size)
 clear hB1
 refine and_field (n := 14) (a0 := a0) (bb := bb) (dp := 125) (d1 := 126) (d2 := 127) (d3 := 128) (d4 := 129) (d5 := 130) (d6 := 131) (d7 := 132) (s := 0) (k := 35) (off := 6) rfl rfl rfl rfl rfl rfl rfl rfl rfl rfl rfl rfl rfl rfl rfl rfl rfl rfl rfl rfl rfl (by kernel_rfl) (by decide) (by decide) (by decide) (by decide) (by decide) (by decide) (by decide) (by decide) kp (by omega) ht s0 (enters_of Tryz.func61 (by kernel_rfl) rfl) (fun w => hfld 6 w (by decide)) (by have c := HC3.out _ hWq; go_simp) (HBB.out _ hWq) (fun a2 w1 kp1 ht1 hB1 => ?_)
 clear kp ht
 have kp := kp1; have ht := ht1; clear kp1 ht1
 replace hWq := Below.trans hWq (hB1.mono hWq.size)
 clear hB1
 refine and_slot (n := 14) (a0 := a0) (dp := 132) (d1 := 133) (d2 := 134) (d3 := 135) (d4 := 136) (s := 7) (k := 42) rfl rfl rfl rfl rfl rfl rfl rfl rfl rfl rfl rfl (by kernel_rfl) (by decide) (by decide) (by decide) (by decide) (by decide) kp (by omega) ht s7 (enters_of Tryz.func62 (by kernel_rfl) rfl) (HGS.out _ hWq) (fun a2 w1 kp1 ht1 hB1 => ?_)
 clear kp ht
 have kp := kp1; have ht := ht1; clear kp1 ht1
 replace hWq := Below.trans hWq (hB1.mono hWq.size)
 clear hB1
 refine and_field (n := 14) (a0 := a0) (bb := bb) (dp := 136) (d1 := 137) (d2 := 138) (d3 := 139) (d4 := 140) (d5 := 141) (d6 := 142) (d7 := 143) (s := 0) (k := 46) (off := 8) rfl rfl rfl rfl rfl rfl rfl rfl rfl rfl rfl rfl rfl rfl rfl rfl rfl rfl rfl rfl rfl (by kernel_rfl) (by decide) (by decide) (by decide) (by decide) (by decide) (by decide) (by decide) (by decide) kp (by omega) ht s0 (enters_of Tryz.func62 (by kernel_rfl) rfl) (fun w => hfld 8 w (by decide)) (by have c := HC4.out _ hWq; go_simp) (HBS.out _ hWq) (fun a2 w1 kp1 ht1 hB1 => ?_)
 clear kp ht
 have kp := kp1; have ht := ht1; clear kp1 ht1
 replace hWq := Below.trans hWq (hB1.mono hWq.size)
 clear hB1
 refine and_slot (n := 14) (a0 := a0) (dp := 143) (d1 := 144) (d2 := 145) (d3 := 146) (d4 := 147) (s := 8) (k := 53) rfl rfl rfl rfl rfl rfl rfl rfl rfl rfl rfl rfl (by kernel_rfl) (by decide) (by decide) (by decide) (by decide) (by decide) kp (by omega) ht s8 (enters_of Tryz.func63 (by kernel_rfl) rfl) (HGE.out _ hWq) (fun a2 w1 kp1 ht1 hB1 => ?_)
 clear kp ht
 have kp := kp1; have ht := ht1; clear kp1 ht1
 replace hWq := Below.trans hWq (hB1.mono hWq.size)
 clear hB1
 refine and_field (n := 14) (a0 := a0) (bb := bb) (dp := 147) (d1 := 148) (d2 := 149) (d3 := 150) (d4 := 151) (d5 := 152) (d6 := 153) (d7 := 154) (s := 0) (k := 57) (off := 10) rfl rfl rfl rfl rfl rfl rfl rfl rfl rfl rfl rfl rfl rfl rfl rfl rfl rfl rfl rfl rfl (by kernel_rfl) (by decide) (by decide) (by decide) (by decide) (by decide) (by decide) (by decide) (by decide) kp (by omega) ht s0 (enters_of Tryz.func63 (by kernel_rfl) rfl) (fun w => hfld 10 w (by decide)) (by have c := HC5.out _ hWq; go_simp) (HBE.out _ hWq) (fun a2 w1 kp1 ht1 hB1 => ?_)
 clear kp ht
 have kp := kp1; have ht := ht1; clear kp1 ht1
 replace hWq := Below.trans hWq (hB1.mono hWq.size)
 clear hB1
 refine and_slot (n := 14) (a0 := a0) (dp := 154) (d1 := 155) (d2 := 156) (d3 := 157) (d4 := 158) (s := 9) (k := 64) rfl rfl rfl rfl rfl rfl rfl rfl rfl rfl rfl rfl (by kernel_rfl) (by decide) (by decide) (by decide) (by decide) (by decide) kp (by omega) ht s9 (enters_of Tryz.func64 (by kernel_rfl) rfl) (markedNodes_nil.mono (fun e w' h => ⟨h.1, h.2⟩)) (fun a2 w1 kp1 ht1 hB1 => ?_)
 clear kp ht
 have kp := kp1; have ht := ht1; clear kp1 ht1
 obtain rfl := hB1
 refine and_field (n := 14) (a0 := a0) (bb := bb) (dp := 158) (d1 := 159) (d2 := 160) (d3 := 161) (d4 := 162) (d5 := 163) (d6 := 164) (d7 := 165) (s := 0) (k := 68) (off := 12) rfl rfl rfl rfl rfl rfl rfl rfl rfl rfl rfl rfl rfl rfl rfl rfl rfl rfl rfl rfl rfl (by kernel_rfl) (by decide) (by decide) (by decide) (by decide) (by decide) (by decide) (by decide) (by decide) kp (by omega) ht s0 (enters_of Tryz.func64 (by kernel_rfl) rfl) (fun w => hfld 12 w (by decide)) (by have c := HC6.out _ hWq; go_simp) (markedNodes_nil.mono (fun e w' h => ⟨h.1, h.2⟩)) (fun a2 w1 kp1 ht1 hB1 => ?_)
 clear kp ht
 have kp := kp1; have ht := ht1; clear kp1 ht1
 obtain rfl := hB1
 refine and_slot (n := 14) (a0 := a0) (dp := 165) (d1 := 166) (d2 := 167) (d3 := 168) (d4 := 169) (s := 10) (k := 75) rfl rfl rfl rfl rfl rfl rfl rfl rfl rfl rfl rfl (by kernel_rfl) (by decide) (by decide) (by decide) (by decide) (by decide) kp (by omega) ht s10 (enters_of Tryz.func65 (by kernel_rfl) rfl) (markedPairs_nil.mono (fun e w' h => ⟨h.1, h.2⟩)) (fun a2 w1 kp1 ht1 hB1 => ?_)
 clear kp ht
 have kp := kp1; have ht := ht1; clear kp1 ht1
 obtain rfl := hB1
 refine and_field (n := 14) (a0 := a0) (bb := bb) (dp := 169) (d1 := 170) (d2 := 171) (d3 := 172) (d4 := 173) (d5 := 174) (d6 := 175) (d7 := 176) (s := 0) (k := 79) (off := 14) rfl rfl rfl rfl rfl rfl rfl rfl rfl rfl rfl rfl rfl rfl rfl rfl rfl rfl rfl rfl rfl (by kernel_rfl) (by decide) (by decide) (by decide) (by decide) (by decide) (by decide) (by decide) (by decide) kp (by omega) ht s0 (enters_of Tryz.func65 (by kernel_rfl) rfl) (fun w => hfld 14 w (by decide)) (by have c := HC7.out _ hWq; go_simp) (markedPairs_nil.mono (fun e w' h => ⟨h.1, h.2⟩)) (fun a2 w1 kp1 ht1 hB1 => ?_)
 clear kp ht
 have kp := kp1; have ht := ht1; clear kp1 ht1
 obtain rfl := hB1
 refine and_slot (n := 14) (a0 := a0) (dp := 176) (d1 := 177) (d2 := 178) (d3 := 179) (d4 := 180) (s := 11) (k := 86) rfl rfl rfl rfl rfl rfl rfl rfl rfl rfl rfl rfl (by kernel_rfl) (by decide) (by decide) (by decide) (by decide) (by decide) kp (by omega) ht s11 (enters_of Tryz.func66 (by kernel_rfl) rfl) (HGR.out _ hWq) (fun a2 w1 kp1 ht1 hB1 => ?_)
 clear kp ht
 have kp := kp1; have ht := ht1; clear kp1 ht1
 replace hWq := Below.trans hWq (hB1.mono hWq.size)
 clear hB1
 refine and_field (n := 14) (a0 := a0) (bb := bb) (dp := 180) (d1 := 181) (d2 := 182) (d3 := 183) (d4 := 184) (d5 := 185) (d6 := 186) (d7 := 187) (s := 0) (k := 90) (off := 16) rfl rfl rfl rfl rfl rfl rfl rfl rfl rfl rfl rfl rfl rfl rfl rfl rfl rfl rfl rfl rfl (by kernel_rfl) (by decide) (by decide) (by decide) (by decide) (by decide) (by decide) (by decide) (by decide) kp (by omega) ht s0 (enters_of Tryz.func66 (by kernel_rfl) rfl) (fun w => hfld 16 w (by decide)) (by have c := HC8.out _ hWq; go_simp) (HBR.out _ hWq) (fun a2 w1 kp1 ht1 hB1 => ?_)
 clear kp ht
 have kp := kp1; have ht := ht1; clear kp1 ht1
 replace hWq := Below.trans hWq (hB1.mono hWq.size)
 clear hB1
 refine and_slot (n := 14) (a0 := a0) (dp := 187) (d1 := 188) (d2 := 189) (d3 := 190) (d4 := 191) (s := 12) (k := 97) rfl rfl rfl rfl rfl rfl rfl rfl rfl rfl rfl rfl (by kernel_rfl) (by decide) (by decide) (by decide) (by decide) (by decide) kp (by omega) ht s12 (enters_of Tryz.func67 (by kernel_rfl) rfl) (markedLines_nil.mono (fun e w' h => ⟨h.1, h.2⟩)) (fun a2 w1 kp1 ht1 hB1 => ?_)
 clear kp ht
 have kp := kp1; have ht := ht1; clear kp1 ht1
 obtain rfl := hB1
 refine and_field (n := 14) (a0 := a0) (bb := bb) (dp := 191) (d1 := 192) (d2 := 193) (d3 := 194) (d4 := 195) (d5 := 196) (d6 := 197) (d7 := 198) (s := 0) (k := 101) (off := 18) rfl rfl rfl rfl rfl rfl rfl rfl rfl rfl rfl rfl rfl rfl rfl rfl rfl rfl rfl rfl rfl (by kernel_rfl) (by decide) (by decide) (by decide) (by decide) (by decide) (by decide) (by decide) (by decide) kp (by omega) ht s0 (enters_of Tryz.func67 (by kernel_rfl) rfl) (fun w => hfld 18 w (by decide)) (by have c := HC9.out _ hWq; go_simp) (markedLines_nil.mono (fun e w' h => ⟨h.1, h.2⟩)) (fun a2 w1 kp1 ht1 hB1 => ?_)
 clear kp ht
 have kp := kp1; have ht := ht1; clear kp1 ht1
 obtain rfl := hB1
 refine and_slot (n := 14) (a0 := a0) (dp := 198) (d1 := 199) (d2 := 200) (d3 := 201) (d4 := 202) (s := 13) (k := 108) rfl rfl rfl rfl rfl rfl rfl rfl rfl rfl rfl rfl (by kernel_rfl) (by decide) (by decide) (by decide) (by decide) (by decide) kp (by omega) ht s13 (enters_of Tryz.func68 (by kernel_rfl) rfl) (HGW.out _ hWq) (fun a2 w1 kp1 ht1 hB1 => ?_)
 clear kp ht
 have kp := kp1; have ht := ht1; clear kp1 ht1
 replace hWq := Below.trans hWq (hB1.mono hWq.size)
 clear hB1
 refine and_field (n := 14) (a0 := a0) (bb := bb) (dp := 202) (d1 := 203) (d2 := 204) (d3 := 205) (d4 := 206) (d5 := 207) (d6 := 208) (d7 := 209) (s := 0) (k := 112) (off := 20) rfl rfl rfl rfl rfl rfl rfl rfl rfl rfl rfl rfl rfl rfl rfl rfl rfl rfl rfl rfl rfl (by kernel_rfl) (by decide) (by decide) (by decide) (by decide) (by decide) (by decide) (by decide) (by decide) kp (by omega) ht s0 (enters_of Tryz.func68 (by kernel_rfl) rfl) (fun w => hfld 20 w (by decide)) (by have c := HC10.out _ hWq; go_simp) (HBW.out _ hWq) (fun a2 w1 kp1 ht1 hB1 => ?_)
 clear kp ht
 have kp := kp1; have ht := ht1; clear kp1 ht1
 replace hWq := Below.trans hWq (hB1.mono hWq.size)
 clear hB1
 have h2 := put_same (a := a2) (d := 2) (by have := kp.size; omega) (.bool true)
 refine wpL_val (v := .bool true) (d := 2) (wanted_none rfl) rfl (by rw [run_assign rfl, eval_tmp ht]) ?_
 refine wpList_nil ?_
 refine hret _ _ (wp_ret (bodyPost_ret (v := .bool true) ?_ (by rw [put_df, kp.df, hdf]) ⟨rfl, HBL.out.trans (hWq.mono HBL.out.size), fun r hr => own_below (HOD.out r hr) hWq⟩))
 simp [results, Tryz.results12, Array.getD_eq_getD_getElem?, h2]
end Go.Proofs.YtgikimbafakmcaaGreatDoor
