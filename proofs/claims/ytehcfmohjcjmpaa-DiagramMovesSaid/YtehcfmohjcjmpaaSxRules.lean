/- The evaluator's rules, for simp. -/
import Derived.Test.YtehcfmohjcjmpaaSxFin
namespace Go.Proofs.Ytehcfmohjcjmpaa.Sx
open Go
attribute [go_sem] X.rd.eq_1 X.rd.eq_2 X.rd.eq_3
attribute [go_sem] rds.eq_1 rds.eq_2
attribute [go_sem] LV.cells.eq_1 LV.cells.eq_2 LV.cells.eq_3 LV.cells.eq_4 LV.cells.eq_5 LV.cells.eq_6 LV.cells.eq_7 LV.cells.eq_8 LV.cells.eq_9 LV.cells.eq_10 LV.cells.eq_11 LV.cells.eq_12 LV.cells.eq_13 LV.cells.eq_14
attribute [go_sem] packL.eq_1 packL.eq_2
attribute [go_sem] liftV.eq_1 liftV.eq_2
attribute [go_sem] inj.eq_1 inj.eq_2 inj.eq_3 inj.eq_4 inj.eq_5 inj.eq_6 inj.eq_7 inj.eq_8 inj.eq_9
attribute [go_sem] solidS.eq_1
attribute [go_sem] solidCell.eq_1 solidCell.eq_2 solidCell.eq_3 solidCell.eq_4 solidCell.eq_5 solidCell.eq_6 solidCell.eq_7 solidCell.eq_8
attribute [go_sem] consS.eq_1
attribute [go_sem] solidCells.eq_1 solidCells.eq_2
attribute [go_sem] aggS.eq_1
attribute [go_sem] pcS.eq_1
attribute [go_sem] fnS.eq_1
attribute [go_sem] solidP.eq_1
attribute [go_sem] solidCap.eq_1 solidCap.eq_2
attribute [go_sem] solidCaps.eq_1 solidCaps.eq_2
attribute [go_sem] solidArg.eq_1 solidArg.eq_2 solidArg.eq_3 solidArg.eq_4 solidArg.eq_5
attribute [go_sem] solidArgs.eq_1 solidArgs.eq_2
attribute [go_sem] Ob.freeze.eq_1 Ob.freeze.eq_2 Ob.freeze.eq_3 Ob.freeze.eq_4
attribute [go_sem] frz.eq_1
attribute [go_sem] freezeAll.eq_1 freezeAll.eq_2
attribute [go_sem] TV.scalar.eq_1 TV.scalar.eq_2 TV.scalar.eq_3 TV.scalar.eq_4 TV.scalar.eq_5
attribute [go_sem] scalars.eq_1 scalars.eq_2
attribute [go_sem] TV.flat.eq_1 TV.flat.eq_2 TV.flat.eq_3
attribute [go_sem] consT.eq_1
attribute [go_sem] thawOne.eq_1
attribute [go_sem] thawCells.eq_1 thawCells.eq_2 thawCells.eq_3
attribute [go_sem] oneT.eq_1
attribute [go_sem] aggT.eq_1
attribute [go_sem] tupT.eq_1
attribute [go_sem] thaw1.eq_1 thaw1.eq_2
attribute [go_sem] thawK.eq_1
attribute [go_sem] thawVs.eq_1 thawVs.eq_2
attribute [go_sem] thaw.eq_1 thaw.eq_2
attribute [go_sem] St.set.eq_1
attribute [go_sem] mkK.eq_1
attribute [go_sem] mkO.eq_1
attribute [go_sem] setM.eq_1
attribute [go_sem] setV.eq_1
attribute [go_sem] binI.eq_1 binI.eq_2 binI.eq_3 binI.eq_4 binI.eq_5 binI.eq_6 binI.eq_7 binI.eq_8 binI.eq_9 binI.eq_10 binI.eq_11 binI.eq_12 binI.eq_13 binI.eq_14 binI.eq_15 binI.eq_16 binI.eq_17
attribute [go_sem] shiftOp.eq_1 shiftOp.eq_2 shiftOp.eq_3
attribute [go_sem] binB.eq_1 binB.eq_2
attribute [go_sem] binS.eq_1 binS.eq_2 binS.eq_3 binS.eq_4
attribute [go_sem] binV.eq_1 binV.eq_2 binV.eq_3
attribute [go_sem] eqCell.eq_1 eqCell.eq_2 eqCell.eq_3
attribute [go_sem] andO.eq_1
attribute [go_sem] eqCells.eq_1 eqCells.eq_2
attribute [go_sem] negB.eq_1
attribute [go_sem] eqL.eq_1
attribute [go_sem] unV.eq_1 unV.eq_2
attribute [go_sem] convV.eq_1
attribute [go_sem] rowsS.eq_1
attribute [go_sem] byteRows.eq_1 byteRows.eq_2
attribute [go_sem] rowsOf.eq_1 rowsOf.eq_2 rowsOf.eq_3
attribute [go_sem] rowsB.eq_1 rowsB.eq_2
attribute [go_sem] bytesOf.eq_1 bytesOf.eq_2
attribute [go_sem] strR.eq_1
attribute [go_sem] b2sK.eq_1
attribute [go_sem] lenV.eq_1 lenV.eq_2 lenV.eq_3
attribute [go_sem] capV.eq_1
attribute [go_sem] setFrom.eq_1 setFrom.eq_2
attribute [go_sem] setFromT.eq_1 setFromT.eq_2
attribute [go_sem] bndL.eq_1
attribute [go_sem] bndX.eq_1 bndX.eq_2
attribute [go_sem] minGo.eq_1 minGo.eq_2
attribute [go_sem] foldMin.eq_1
attribute [go_sem] maxGo.eq_1 maxGo.eq_2
attribute [go_sem] foldMax.eq_1
attribute [go_sem] buildCells.eq_1 buildCells.eq_2
attribute [go_sem] consR.eq_1
attribute [go_sem] solidRows.eq_1 solidRows.eq_2
attribute [go_sem] pickK.eq_1
attribute [go_sem] boxK.eq_1
attribute [go_sem] bsliceK.eq_1
attribute [go_sem] cut.eq_1
attribute [go_sem] loadR.eq_1
attribute [go_sem] loadO.eq_1
attribute [go_sem] loadE.eq_1
attribute [go_sem] loadL.eq_1 loadL.eq_2 loadL.eq_3
attribute [go_sem] storeP.eq_1
attribute [go_sem] storeE2.eq_1
attribute [go_sem] storeE.eq_1
attribute [go_sem] storeL.eq_1 storeL.eq_2
attribute [go_sem] nchkL.eq_1 nchkL.eq_2 nchkL.eq_3 nchkL.eq_4 nchkL.eq_5
attribute [go_sem] fldL.eq_1
attribute [go_sem] faddrL.eq_1 faddrL.eq_2 faddrL.eq_3
attribute [go_sem] pcR.eq_1
attribute [go_sem] iaddrS.eq_1
attribute [go_sem] iaddrL.eq_1 iaddrL.eq_2
attribute [go_sem] aaddrL.eq_1
attribute [go_sem] ixaL.eq_1
attribute [go_sem] byteR.eq_1
attribute [go_sem] ixsL.eq_1
attribute [go_sem] flOf.eq_1 flOf.eq_2
attribute [go_sem] cutV.eq_1
attribute [go_sem] cutM.eq_1
attribute [go_sem] cutS.eq_1
attribute [go_sem] cutO.eq_1
attribute [go_sem] cutV2.eq_1
attribute [go_sem] cutV3.eq_1
attribute [go_sem] sliceL.eq_1 sliceL.eq_2 sliceL.eq_3
attribute [go_sem] appS.eq_1
attribute [go_sem] appT.eq_1 appT.eq_2
attribute [go_sem] appL.eq_1 appL.eq_2
attribute [go_sem] appK.eq_1
attribute [go_sem] copyO.eq_1
attribute [go_sem] copyL.eq_1
attribute [go_sem] copyK.eq_1
attribute [go_sem] extL.eq_1
attribute [go_sem] mksK.eq_1
attribute [go_sem] nilB.eq_1
attribute [go_sem] isnilL.eq_1 isnilL.eq_2 isnilL.eq_3 isnilL.eq_4 isnilL.eq_5
attribute [go_sem] appzK.eq_1
attribute [go_sem] consM.eq_1
attribute [go_sem] mgetP.eq_1 mgetP.eq_2
attribute [go_sem] mgetR.eq_1 mgetR.eq_2
attribute [go_sem] oneOf.eq_1 oneOf.eq_2 oneOf.eq_3 oneOf.eq_4 oneOf.eq_5 oneOf.eq_6
attribute [go_sem] mgetO.eq_1
attribute [go_sem] mgetL.eq_1
attribute [go_sem] scalTV.eq_1 scalTV.eq_2 scalTV.eq_3
attribute [go_sem] consO.eq_1
attribute [go_sem] scalTVs.eq_1 scalTVs.eq_2
attribute [go_sem] setMap.eq_1
attribute [go_sem] solidO.eq_1
attribute [go_sem] mupdO.eq_1
attribute [go_sem] mupdL.eq_1
attribute [go_sem] mdelO.eq_1
attribute [go_sem] mdelL.eq_1
attribute [go_sem] mlenO.eq_1
attribute [go_sem] mlenL.eq_1
attribute [go_sem] callT.eq_1
attribute [go_sem] callR.eq_1
attribute [go_sem] callA.eq_1
attribute [go_sem] callF.eq_1 callF.eq_2
attribute [go_sem] evOp.eq_1 evOp.eq_2 evOp.eq_3 evOp.eq_4 evOp.eq_5 evOp.eq_6 evOp.eq_7 evOp.eq_8 evOp.eq_9 evOp.eq_10 evOp.eq_11 evOp.eq_12 evOp.eq_13 evOp.eq_14 evOp.eq_15 evOp.eq_16 evOp.eq_17 evOp.eq_18 evOp.eq_19 evOp.eq_20 evOp.eq_21 evOp.eq_22 evOp.eq_23 evOp.eq_24 evOp.eq_25 evOp.eq_26 evOp.eq_27 evOp.eq_28 evOp.eq_29 evOp.eq_30 evOp.eq_31 evOp.eq_32 evOp.eq_33 evOp.eq_34 evOp.eq_35 evOp.eq_36 evOp.eq_37 evOp.eq_38
attribute [go_sem] IOp.dst.eq_1 IOp.dst.eq_2 IOp.dst.eq_3 IOp.dst.eq_4 IOp.dst.eq_5 IOp.dst.eq_6 IOp.dst.eq_7 IOp.dst.eq_9 IOp.dst.eq_10 IOp.dst.eq_11 IOp.dst.eq_12 IOp.dst.eq_13 IOp.dst.eq_14 IOp.dst.eq_15 IOp.dst.eq_16 IOp.dst.eq_17 IOp.dst.eq_18 IOp.dst.eq_19 IOp.dst.eq_20 IOp.dst.eq_21 IOp.dst.eq_22 IOp.dst.eq_23 IOp.dst.eq_24 IOp.dst.eq_25 IOp.dst.eq_26 IOp.dst.eq_27 IOp.dst.eq_28 IOp.dst.eq_29 IOp.dst.eq_30 IOp.dst.eq_31 IOp.dst.eq_32 IOp.dst.eq_33 IOp.dst.eq_34 IOp.dst.eq_35 IOp.dst.eq_38
attribute [go_sem] skipK.eq_1 skipK.eq_2
attribute [go_sem] guardK.eq_1 guardK.eq_2
attribute [go_sem] evOper.eq_1 evOper.eq_2
attribute [go_sem] evOps.eq_1 evOps.eq_2
attribute [go_sem] lk.eq_1 lk.eq_2
attribute [go_sem] renP.eq_1 renP.eq_2
attribute [go_sem] renE.eq_1 renE.eq_2
attribute [go_sem] renS.eq_1 renS.eq_2
attribute [go_sem] renM.eq_1 renM.eq_2
attribute [go_sem] maskC.eq_1 maskC.eq_2 maskC.eq_3 maskC.eq_4 maskC.eq_5 maskC.eq_6 maskC.eq_7
attribute [go_sem] maskCs.eq_1 maskCs.eq_2
attribute [go_sem] mask2.eq_1 mask2.eq_2 mask2.eq_3
attribute [go_sem] maskL.eq_1 maskL.eq_2 maskL.eq_3 maskL.eq_4
attribute [go_sem] maskO.eq_1 maskO.eq_2 maskO.eq_3 maskO.eq_4
attribute [go_sem] keepEnv.eq_1 keepEnv.eq_2
attribute [go_sem] keepLo.eq_1 keepLo.eq_2
attribute [go_sem] keepHp.eq_1 keepHp.eq_2
attribute [go_sem] GC.run.eq_1
attribute [go_sem] regK.eq_1
attribute [go_sem] seqK.eq_1 seqK.eq_2 seqK.eq_3
attribute [go_sem] blockK.eq_1 blockK.eq_2 blockK.eq_3
attribute [go_sem] condK.eq_1
attribute [go_sem] fp0.eq_1
attribute [go_sem] fpA.eq_1 fpA.eq_2 fpA.eq_3 fpA.eq_4 fpA.eq_5
attribute [go_sem] fpS.eq_1 fpS.eq_2
attribute [go_sem] fpW.eq_1 fpW.eq_2 fpW.eq_3
attribute [go_sem] fpM.eq_1 fpM.eq_2
attribute [go_sem] fpR.eq_1 fpR.eq_2
attribute [go_sem] thawNs.eq_1 thawNs.eq_2 thawNs.eq_3
attribute [go_sem] thawN1.eq_1 thawN1.eq_2
attribute [go_sem] thawNVs.eq_1 thawNVs.eq_2
attribute [go_sem] thawN.eq_1 thawN.eq_2
attribute [go_sem] fpCall.eq_1 fpCall.eq_2
attribute [go_sem] fpCallA.eq_1 fpCallA.eq_2
attribute [go_sem] fpCallF.eq_1 fpCallF.eq_2 fpCallF.eq_3
attribute [go_sem] fpOp.eq_1 fpOp.eq_2 fpOp.eq_3 fpOp.eq_4 fpOp.eq_5 fpOp.eq_6 fpOp.eq_7 fpOp.eq_8 fpOp.eq_9 fpOp.eq_10 fpOp.eq_11 fpOp.eq_12 fpOp.eq_13 fpOp.eq_14 fpOp.eq_15 fpOp.eq_16 fpOp.eq_17 fpOp.eq_18 fpOp.eq_19
attribute [go_sem] fpG.eq_1 fpG.eq_2
attribute [go_sem] fpOper.eq_1 fpOper.eq_2
attribute [go_sem] meets.eq_1 meets.eq_2
attribute [go_sem] apart.eq_1
attribute [go_sem] apartAll.eq_1 apartAll.eq_2
attribute [go_sem] stepE.eq_1
attribute [go_sem] stepD.eq_1 stepD.eq_2 stepD.eq_3
attribute [go_sem] evOpsD.eq_1 evOpsD.eq_2
attribute [go_sem] bindArgs.eq_1 bindArgs.eq_2
attribute [go_sem] offIds.eq_1
attribute [go_sem] cellIds.eq_1 cellIds.eq_2
attribute [go_sem] cellsIds.eq_1 cellsIds.eq_2
attribute [go_sem] resId.eq_1 resId.eq_2
attribute [go_sem] resIds.eq_1 resIds.eq_2
attribute [go_sem] expS.eq_1
attribute [go_sem] expFst.eq_1
attribute [go_sem] expC.eq_1 expC.eq_2 expC.eq_3
attribute [go_sem] consE.eq_1
attribute [go_sem] expCs.eq_1 expCs.eq_2
attribute [go_sem] expA.eq_1
attribute [go_sem] expL.eq_1 expL.eq_2 expL.eq_3 expL.eq_4
attribute [go_sem] plainRes.eq_1 plainRes.eq_2 plainRes.eq_3 plainRes.eq_4 plainRes.eq_5
attribute [go_sem] expLs.eq_1 expLs.eq_2
attribute [go_sem] expT.eq_1 expT.eq_2
attribute [go_sem] resL.eq_1 resL.eq_2
attribute [go_sem] consL.eq_1
attribute [go_sem] resLs.eq_1 resLs.eq_2
attribute [go_sem] expR.eq_1
attribute [go_sem] finR.eq_1 finR.eq_2
attribute [go_sem] start.eq_1
attribute [go_sem] TV.flat.flats.eq_1 TV.flat.flats.eq_2 TV.flat.flats.eq_3
attribute [go_sem] true_or or_true false_or or_false and_true true_and and_false false_and not_false_eq_true not_true_eq_false and_self eq_self
attribute [go_sem] List.drop_zero List.drop_succ_cons List.take_succ_cons List.take_zero List.length_cons List.length_nil List.set_cons_zero List.set_cons_succ List.getElem?_cons_zero List.getElem?_cons_succ List.nil_append List.cons_append List.append_nil List.mem_cons List.not_mem_nil List.isEmpty_nil List.isEmpty_cons List.drop_nil List.take_nil List.drop_length List.map_cons List.map_nil
attribute [go_sem] Bool.true_or Bool.or_true Bool.false_or Bool.or_false Bool.and_true Bool.true_and Bool.and_false Bool.false_and Bool.not_true Bool.not_false Bool.false_eq_true Bool.true_eq_false
attribute [go_sem] Nat.zero_add Nat.add_zero Int.toNat_natCast Int.natCast_nonneg decide_true decide_false Option.map_some Option.map_none Nat.le_refl List.contains_cons List.contains_nil List.count_nil List.count_cons beq_self_eq_true Nat.not_lt_zero List.all_cons List.all_nil Bool.and_self Bool.or_self
end Go.Proofs.Ytehcfmohjcjmpaa.Sx
